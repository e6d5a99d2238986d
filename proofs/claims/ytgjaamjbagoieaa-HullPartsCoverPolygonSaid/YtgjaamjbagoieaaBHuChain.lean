
set_option linter.unusedVariables false
set_option linter.unusedSimpArgs false
set_option linter.unnecessarySimpa false
/-
  PLAIN MATHEMATICS: the chain of a convex hull (Andrew's algorithm), by vectors of one half-plane.
-/
namespace Go.Hu
abbrev Pt := Int × Int
def side (a b p : Pt) : Int := (b.1 - a.1) * (p.2 - a.2) - (b.2 - a.2) * (p.1 - a.1)
theorem side_cyc (a b c : Pt) : side a b c = side b c a := by unfold side; grind
theorem side_swap (a b c : Pt) : side a b c = - side b a c := by unfold side; grind
theorem side_self1 (a c : Pt) : side a a c = 0 := by unfold side; grind
theorem side_self2 (a b : Pt) : side a b a = 0 := by unfold side; grind
theorem side_self3 (a b : Pt) : side a b b = 0 := by unfold side; grind

def cross (u v : Pt) : Int := u.1 * v.2 - u.2 * v.1
/-- x comes ahead of y. -/
def before (s : Bool) (x y : Pt) : Prop := match s with
  | true => x.1 < y.1 ∨ (x.1 = y.1 ∧ x.2 < y.2)
  | false => y.1 < x.1 ∨ (y.1 = x.1 ∧ y.2 < x.2)
/-- Vectors that point ahead. -/
def pos (s : Bool) (u : Pt) : Prop := match s with
  | true => 0 < u.1 ∨ (u.1 = 0 ∧ 0 < u.2)
  | false => u.1 < 0 ∨ (u.1 = 0 ∧ u.2 < 0)
theorem pos_sub {s : Bool} {x y : Pt} : before s x y ↔ pos s (y.1 - x.1, y.2 - x.2) := by
  cases s <;> simp only [before, pos] <;> omega
theorem before_trans {s : Bool} {x y z : Pt} (h : before s x y) (k : before s y z) : before s x z := by
  cases s <;> simp only [before] at * <;> omega
theorem before_irrefl {s : Bool} {x : Pt} : ¬ before s x x := by
  cases s <;> simp only [before] <;> omega
theorem before_total (s : Bool) (x y : Pt) : before s x y ∨ x = y ∨ before s y x := by
  have : x = y ↔ x.1 = y.1 ∧ x.2 = y.2 := Prod.ext_iff
  cases s <;> simp only [before, this] <;> omega
theorem before_not (s : Bool) {x y : Pt} : before (!s) x y ↔ before s y x := by
  cases s <;> simp only [before, Bool.not_true, Bool.not_false]

theorem mul_pos' {a b : Int} (h : 0 < a) (k : 0 < b) : 0 < a * b := Int.mul_pos h k
theorem mul_nn {a b : Int} (h : 0 ≤ a) (k : 0 ≤ b) : 0 ≤ a * b := Int.mul_nonneg h k
theorem nn_of_mul {a b : Int} (h : 0 ≤ a * b) (k : 0 < b) : 0 ≤ a := by
  rcases (by omega : a < 0 ∨ 0 ≤ a) with h1 | h1
  · have := Int.mul_neg_of_neg_of_pos h1 k; omega
  · exact h1
theorem pos_of_mul {a b : Int} (h : 0 < a * b) (k : 0 < b) : 0 < a := by
  rcases (by omega : 0 < a ∨ a ≤ 0) with h1 | h1
  · exact h1
  · have := Int.mul_nonneg (show 0 ≤ -a by omega) (show 0 ≤ b by omega)
    have e : -a * b = -(a * b) := Int.neg_mul ..
    omega

theorem cross_nn0 {u v w : Pt} (hu : pos true u) (hv : pos true v) (hw : pos true w) (h1 : 0 ≤ cross u v) (h2 : 0 ≤ cross v w) : 0 ≤ cross u w := by
  have id : cross u w * v.1 = cross u v * w.1 + cross v w * u.1 := by unfold cross; grind
  simp only [pos] at hu hv hw
  rcases hv with hv | ⟨hv0, hv⟩
  · refine nn_of_mul (b := v.1) ?_ hv
    have e1 := mul_nn h1 (show 0 ≤ w.1 by omega)
    have e2 := mul_nn h2 (show 0 ≤ u.1 by omega)
    omega
  · have e : cross v w = -(v.2 * w.1) := by unfold cross; rw [hv0]; grind
    have hw1 : w.1 = 0 := by
      rcases (by omega : 0 < w.1 ∨ w.1 ≤ 0) with hp | hp
      · have := mul_pos' hv hp; omega
      · omega
    have e2 : cross u w = u.1 * w.2 := by unfold cross; rw [hw1]; grind
    rw [e2]
    exact mul_nn (by omega) (by omega)
theorem cross_pos0 {u v w : Pt} (hu : pos true u) (hv : pos true v) (hw : pos true w) (h1 : 0 < cross u v) (h2 : 0 ≤ cross v w) : 0 < cross u w := by
  have id : cross u w * v.1 = cross u v * w.1 + cross v w * u.1 := by unfold cross; grind
  simp only [pos] at hu hv hw
  have hu1 : 0 < u.1 := by
    rcases hu with hu | ⟨hu0, hu⟩
    · exact hu
    · have e : cross u v = -(u.2 * v.1) := by unfold cross; rw [hu0]; grind
      have := mul_nn (show 0 ≤ u.2 by omega) (show 0 ≤ v.1 by omega)
      omega
  rcases hw with hw | ⟨hw0, hw⟩
  · rcases hv with hv | ⟨hv0, hv⟩
    · refine pos_of_mul (b := v.1) ?_ hv
      have e1 := mul_pos' h1 hw
      have e2 := mul_nn h2 (show 0 ≤ u.1 by omega)
      omega
    · have e : cross v w = -(v.2 * w.1) := by unfold cross; rw [hv0]; grind
      have := mul_pos' hv hw
      omega
  · have e2 : cross u w = u.1 * w.2 := by unfold cross; rw [hw0]; grind
    rw [e2]
    exact mul_pos' hu1 hw
theorem cross_pos1 {u v w : Pt} (hu : pos true u) (hv : pos true v) (hw : pos true w) (h1 : 0 ≤ cross u v) (h2 : 0 < cross v w) : 0 < cross u w := by
  have id : cross u w * v.1 = cross u v * w.1 + cross v w * u.1 := by unfold cross; grind
  simp only [pos] at hu hv hw
  have hv1 : 0 < v.1 := by
    rcases hv with hv | ⟨hv0, hv⟩
    · exact hv
    · have e : cross v w = -(v.2 * w.1) := by unfold cross; rw [hv0]; grind
      have := mul_nn (show 0 ≤ v.2 by omega) (show 0 ≤ w.1 by omega)
      omega
  rcases hu with hu | ⟨hu0, hu⟩
  · refine pos_of_mul (b := v.1) ?_ hv1
    have e1 := mul_nn h1 (show 0 ≤ w.1 by omega)
    have e2 := mul_pos' h2 hu
    omega
  · have e : cross u v = -(u.2 * v.1) := by unfold cross; rw [hu0]; grind
    have := mul_pos' hu hv1
    omega
def neg (u : Pt) : Pt := (-u.1, -u.2)
theorem pos_neg {u : Pt} : pos false u ↔ pos true (neg u) := by simp only [pos, neg]; omega
theorem cross_neg (u v : Pt) : cross (neg u) (neg v) = cross u v := by unfold cross neg; grind
theorem cross_nn {s : Bool} {u v w : Pt} (hu : pos s u) (hv : pos s v) (hw : pos s w) (h1 : 0 ≤ cross u v) (h2 : 0 ≤ cross v w) : 0 ≤ cross u w := by
  cases s with
  | true => exact cross_nn0 hu hv hw h1 h2
  | false => rw [← cross_neg] at h1 h2 ⊢; exact cross_nn0 (pos_neg.1 hu) (pos_neg.1 hv) (pos_neg.1 hw) h1 h2
theorem cross_pl {s : Bool} {u v w : Pt} (hu : pos s u) (hv : pos s v) (hw : pos s w) (h1 : 0 < cross u v) (h2 : 0 ≤ cross v w) : 0 < cross u w := by
  cases s with
  | true => exact cross_pos0 hu hv hw h1 h2
  | false => rw [← cross_neg] at h1 h2 ⊢; exact cross_pos0 (pos_neg.1 hu) (pos_neg.1 hv) (pos_neg.1 hw) h1 h2
theorem cross_pr {s : Bool} {u v w : Pt} (hu : pos s u) (hv : pos s v) (hw : pos s w) (h1 : 0 ≤ cross u v) (h2 : 0 < cross v w) : 0 < cross u w := by
  cases s with
  | true => exact cross_pos1 hu hv hw h1 h2
  | false => rw [← cross_neg] at h1 h2 ⊢; exact cross_pos1 (pos_neg.1 hu) (pos_neg.1 hv) (pos_neg.1 hw) h1 h2

/-- From x to y. -/
def vec (x y : Pt) : Pt := (y.1 - x.1, y.2 - x.2)
theorem pos_vec {s : Bool} {x y : Pt} (h : before s x y) : pos s (vec x y) := pos_sub.1 h
theorem side_vec1 (a b p : Pt) : side a b p = cross (vec a b) (vec a p) := by unfold side cross vec; grind
theorem side_vec2 (a b p : Pt) : side a b p = cross (vec a b) (vec b p) := by unfold side cross vec; grind
theorem side_vec3 (a b p : Pt) : side a b p = cross (vec p a) (vec a b) := by unfold side cross vec; grind
theorem side_vec4 (a b p : Pt) : side a b p = cross (vec p b) (vec a b) := by unfold side cross vec; grind

/-! ### A chain, top first -/
/-- All that was passed lies to the left of each edge, and each corner turns left. -/
def Good (s : Bool) (ps : List Pt) : List Pt → Prop
  | [] => False
  | [a] => ∀ q ∈ ps, q = a ∨ before s a q
  | b :: a :: r => before s a b ∧ (∀ q ∈ ps, 0 ≤ side a b q) ∧ (∀ c, r.head? = some c → 0 < side c a b) ∧ Good s ps (a :: r)

def pop (p : Pt) : List Pt → List Pt
  | b :: a :: r => if side a b p ≤ 0 then pop p (a :: r) else b :: a :: r
  | l => l
def chain (l : List Pt) : List Pt := l.foldl (fun st p => p :: pop p st) []

theorem Good.one {s : Bool} {ps : List Pt} {p : Pt} (h : ∀ q ∈ ps, q = p ∨ before s p q) : Good s ps [p] := h

/-- One more point, to the left of the top edge, is to the left of all. -/
theorem good_extend {s : Bool} {ps : List Pt} {p : Pt} : ∀ (r : List Pt) (a b : Pt), Good s ps (b :: a :: r) → before s b p → 0 < side a b p → Good s (ps ++ [p]) (b :: a :: r) ∧ (∀ u v, (∃ i, (b :: a :: r)[i]? = some v ∧ (b :: a :: r)[i + 1]? = some u) → 0 < side u v p) := by
  intro r
  induction r with
  | nil =>
    intro a b h hb hp
    obtain ⟨h1, h2, h3, h4⟩ := h
    refine ⟨⟨h1, fun q hq => ?_, h3, fun q hq => ?_⟩, fun u v ⟨i, e1, e2⟩ => ?_⟩
    · simp only [List.mem_append, List.mem_singleton] at hq
      rcases hq with hq | rfl
      · exact h2 q hq
      · omega
    · simp only [List.mem_append, List.mem_singleton] at hq
      rcases hq with hq | rfl
      · exact h4 q hq
      · exact .inr (before_trans h1 hb)
    · match i with
      | 0 => simp at e1 e2; subst e1; subst e2; exact hp
      | i + 1 => simp at e2
  | cons c r ih =>
    intro a b h hb hp
    obtain ⟨h1, h2, h3, h4⟩ := h
    have h40 := h4
    obtain ⟨g1, g2, g3, g4⟩ := h4
    have ht : 0 < side c a b := h3 c rfl
    have hcp : 0 < side c a p := by
      rw [side_vec2] at ht hp ⊢
      have hap := before_trans h1 hb
      -- from c to a, from a to b, from b to p
      have k1 : 0 < cross (vec a b) (vec a p) := by rw [← side_vec1, side_vec2]; exact hp
      exact cross_pl (pos_vec g1) (pos_vec h1) (pos_vec hap) ht (by omega)
    obtain ⟨i1, i2⟩ := ih c a h40 (before_trans h1 hb) hcp
    refine ⟨⟨h1, fun q hq => ?_, h3, i1⟩, fun u v ⟨i, e1, e2⟩ => ?_⟩
    · simp only [List.mem_append, List.mem_singleton] at hq
      rcases hq with hq | rfl
      · exact h2 q hq
      · omega
    · match i with
      | 0 => simp at e1 e2; subst e1; subst e2; exact hp
      | i + 1 => exact i2 u v ⟨i, by simpa using e1, by simpa using e2⟩

theorem pop_good {s : Bool} {ps : List Pt} {p : Pt} (hp : ∀ q ∈ ps, before s q p) : ∀ (r : List Pt) (b : Pt), Good s ps (b :: r) → (∀ x ∈ b :: r, x ∈ ps) → (∀ q ∈ ps, before s b q → 0 ≤ side b p q) → Good s (ps ++ [p]) (p :: pop p (b :: r)) := by
  intro r
  induction r with
  | nil =>
    intro b h hm hq
    have hb := hp b (hm b (by simp))
    refine ⟨hb, fun q hq' => ?_, fun c hc => by simp at hc, fun q hq' => ?_⟩
    · simp only [List.mem_append, List.mem_singleton] at hq'
      rcases hq' with hq' | rfl
      · rcases h q hq' with rfl | h1
        · rw [side_self2]; omega
        · exact hq q hq' h1
      · rw [side_self3]; omega
    · simp only [List.mem_append, List.mem_singleton] at hq'
      rcases hq' with hq' | rfl
      · exact h q hq'
      · exact .inr hb
  | cons a r ih =>
    intro b h hm hq
    have h0 := h
    obtain ⟨h1, h2, h3, h4⟩ := h
    have hbp := hp b (hm b (by simp))
    have hap := hp a (hm a (by simp))
    unfold pop
    split
    · rename_i hs
      refine ih a h4 (fun x hx => hm x (List.mem_cons_of_mem _ hx)) fun q hqm haq => ?_
      have hqp := hp q hqm
      -- b is to the left of the way from a to p
      have hb : 0 ≤ cross (vec a p) (vec a b) := by
        have e : side a b p = -(cross (vec a p) (vec a b)) := by unfold side cross vec; grind
        omega
      rcases before_total s q b with hqb | rfl | hbq
      · -- between a and b
        rw [side_vec1]
        refine cross_nn (pos_vec hap) (pos_vec h1) (pos_vec haq) hb ?_
        rw [← side_vec1]; exact h2 q hqm
      · rw [side_vec1]; exact hb
      · have k := hq q hqm hbq
        have e1 : side b p q = cross (vec q p) (vec b p) := side_vec4 b p q
        have e2 : 0 ≤ cross (vec b p) (vec a p) := by
          have : cross (vec b p) (vec a p) = cross (vec a p) (vec a b) := by unfold cross vec; grind
          omega
        rw [side_vec4]
        exact cross_nn (pos_vec hqp) (pos_vec hbp) (pos_vec hap) (by omega) e2
    · rename_i hs
      obtain ⟨k1, k2⟩ := good_extend r a b h0 hbp (by omega)
      refine ⟨hbp, fun q hq' => ?_, fun c hc => ?_, k1⟩
      · simp only [List.mem_append, List.mem_singleton] at hq'
        rcases hq' with hq' | rfl
        · rcases before_total s q b with hqb | rfl | hbq
          · have g1 := h2 q hq'
            have g2 : 0 < side a b p := by omega
            rw [side_vec4] at g1
            rw [side_vec2] at g2
            rw [side_vec3]
            have := cross_pr (pos_vec hqb) (pos_vec h1) (pos_vec hbp) g1 g2
            omega
          · rw [side_self2]; omega
          · exact hq q hq' hbq
        · rw [side_self3]; omega
      · simp at hc; subst hc; omega

theorem pop_mem {p : Pt} : ∀ (l : List Pt) (x : Pt), x ∈ pop p l → x ∈ l := by
  intro l
  induction l with
  | nil => intro x h; exact h
  | cons b l ih =>
    intro x h
    cases l with
    | nil => exact h
    | cons a r =>
      unfold pop at h
      split at h
      · exact List.mem_cons_of_mem _ (ih x h)
      · exact h
theorem pop_ne {p : Pt} : ∀ (l : List Pt), l ≠ [] → pop p l ≠ [] := by
  intro l
  induction l with
  | nil => intro h; exact absurd rfl h
  | cons b l ih =>
    intro _
    cases l with
    | nil => simp [pop]
    | cons a r =>
      unfold pop
      split
      · exact ih (by simp)
      · simp
theorem pop_last {p : Pt} : ∀ (l : List Pt), (pop p l).getLast? = l.getLast? := by
  intro l
  induction l with
  | nil => rfl
  | cons b l ih =>
    cases l with
    | nil => rfl
    | cons a r =>
      unfold pop
      split
      · rw [ih]; simp [List.getLast?_cons]
      · rfl

/-- Points in strict order. -/
def Asc (s : Bool) (l : List Pt) : Prop := l.Pairwise (before s)

theorem chain_snoc (l : List Pt) (p : Pt) : chain (l ++ [p]) = p :: pop p (chain l) := by simp [chain]
theorem chain_good {s : Bool} : ∀ (n : Nat) (l : List Pt), l.length = n → l ≠ [] → Asc s l → Good s l (chain l) ∧ (∀ x ∈ chain l, x ∈ l) ∧ (chain l).head? = l.getLast? ∧ (chain l).getLast? = l.head? := by
  intro n
  induction n with
  | zero => intro l hl hne; exact absurd (List.eq_nil_of_length_eq_zero hl) hne
  | succ n ih =>
    intro l hl hne hs
    obtain ⟨m, p, rfl⟩ : ∃ m p, l = m ++ [p] := ⟨l.dropLast, l.getLast hne, (List.dropLast_concat_getLast hne).symm⟩
    rw [chain_snoc]
    have hs' := List.pairwise_append.1 hs
    by_cases hm : m = []
    · subst hm
      refine ⟨fun q hq => .inl (by simpa using hq), fun x hx => by simpa [chain, pop] using hx, by simp, by simp [chain, pop]⟩
    · obtain ⟨g1, g2, g3, g4⟩ := ih m (by simp at hl; omega) hm hs'.1
      have hp : ∀ q ∈ m, before s q p := fun q hq => hs'.2.2 q hq p (by simp)
      cases hc : chain m with
      | nil => rw [hc] at g1; exact g1.elim
      | cons b r =>
        rw [hc] at g1 g2 g3 g4
        have hb : b ∈ m := g2 b (by simp)
        refine ⟨pop_good hp r b g1 g2 fun q hq hbq => ?_, fun x hx => ?_, by simp, ?_⟩
        · -- nothing comes behind the last
          have hlast : m.getLast? = some b := by rw [← g3]; rfl
          obtain ⟨m', rfl⟩ : ∃ m', m = m' ++ [b] := List.getLast?_eq_some_iff.1 hlast
          simp only [List.mem_append, List.mem_singleton] at hq
          rcases hq with hq | rfl
          · have := (List.pairwise_append.1 hs'.1).2.2 q hq b (by simp)
            exact absurd (before_trans this hbq) before_irrefl
          · exact absurd hbq before_irrefl
        · rcases List.mem_cons.1 hx with rfl | hx
          · simp
          · exact List.mem_append_left _ (g2 x (pop_mem _ _ hx))
        · have hne' : pop p (b :: r) ≠ [] := pop_ne _ (by simp)
          have e1 : (p :: pop p (b :: r)).getLast? = (pop p (b :: r)).getLast? := by
            cases hq : pop p (b :: r) with
            | nil => exact absurd hq hne'
            | cons x y => simp [List.getLast?_cons]
          rw [e1, pop_last, g4]
          cases m with
          | nil => exact absurd rfl hm
          | cons x y => rfl
end Go.Hu
