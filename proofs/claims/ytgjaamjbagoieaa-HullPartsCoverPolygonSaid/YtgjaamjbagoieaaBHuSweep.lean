import Derived.Test.YtgjaamjbagoieaaBHuDed
set_option linter.unusedVariables false
set_option linter.unusedSimpArgs false
set_option linter.unnecessarySimpa false
/-
  PLAIN MATHEMATICS: swept regions; the reference's hull by wrapping.
-/
namespace Go.Hu
def outerC (o a b : Int) : Int := o + (9 * (a + b - 2 * o)).tdiv 16
def outerP (o a b : Pt) : Pt := (outerC o.1 a.1 b.1, outerC o.2 a.2 b.2)
def points (o : Pt) (a b : List Pt) : List Pt := a ++ b ++ List.zipWith (outerP o) a b
def region (o : Pt) (a b : List Pt) : List Pt × Bool := if a.length ≠ b.length then ([], false) else if 12 < a.length then ([], false) else hullRes (points o a b)

theorem tdiv16 (x : Int) : (0 ≤ x → x.tdiv 16 = x / 16) ∧ (x < 0 → x.tdiv 16 = -((-x) / 16)) := by
  refine ⟨fun h => Int.tdiv_eq_ediv_of_nonneg h, fun h => ?_⟩
  have : x.tdiv 16 = -((-x).tdiv 16) := by rw [Int.neg_tdiv, Int.neg_neg]
  rw [this, Int.tdiv_eq_ediv_of_nonneg (by omega)]
theorem tdiv16_bd {x M : Int} (h1 : -(16 * M) ≤ x) (h2 : x ≤ 16 * M) : -M ≤ x.tdiv 16 ∧ x.tdiv 16 ≤ M := by
  obtain ⟨t1, t2⟩ := tdiv16 x
  by_cases h : 0 ≤ x
  · rw [t1 h]; omega
  · rw [t2 (by omega)]; omega

/-- What a corner's successor on the hull is, among the points of one list. -/
def far (a b : Pt) : Int := (a.1 - b.1) * (a.1 - b.1) + (a.2 - b.2) * (a.2 - b.2)
def wrap1 (v out x : Pt) : Pt := if x = v then out else if out = v then x else if side v out x < 0 then x else if side v out x = 0 then (if far v out < far v x then x else out) else out
def wrapN (v : Pt) (l : List Pt) (out : Pt) : Pt := l.foldl (wrap1 v) out
theorem wrapN_mem (v : Pt) : ∀ (l : List Pt) (out : Pt), wrapN v l out = out ∨ wrapN v l out ∈ l := by
  intro l
  induction l with
  | nil => intro out; exact .inl rfl
  | cons x l ih =>
    intro out
    rcases ih (wrap1 v out x) with h | h
    · have e : wrapN v (x :: l) out = wrapN v l (wrap1 v out x) := rfl
      rw [e, h]
      unfold wrap1
      split
      · exact .inl rfl
      · split
        · exact .inr (by simp)
        · split
          · exact .inr (by simp)
          · split
            · split
              · exact .inr (by simp)
              · exact .inl rfl
            · exact .inl rfl
    · exact .inr (List.mem_cons_of_mem _ h)

theorem sq_le {A A' x y : Int} (h1 : 0 ≤ A') (h2 : A' ≤ A) (e : A * x = A' * y) : A * A * (x * x) ≤ A * A * (y * y) ∧ (A' < A → y ≠ 0 → A * A * (x * x) < A * A * (y * y)) := by
  have e1 : A * A * (x * x) = A' * A' * (y * y) := by
    have : A * A * (x * x) = (A * x) * (A * x) := by grind
    rw [this, e]; grind
  have hy : 0 ≤ y * y := by
    rcases (by omega : 0 ≤ y ∨ y ≤ 0) with h | h
    · exact mul_nn h h
    · have := mul_nn (show 0 ≤ -y by omega) (show 0 ≤ -y by omega)
      have e2 : -y * -y = y * y := by grind
      omega
  have hA : A' * A' ≤ A * A := Int.mul_le_mul h2 h2 h1 (by omega)
  refine ⟨by rw [e1]; exact Int.mul_le_mul_of_nonneg_right hA hy, fun hlt hy0 => ?_⟩
  rw [e1]
  have hA' : A' * A' < A * A := by
    have k1 : A' * A' ≤ A' * A := Int.mul_le_mul_of_nonneg_left h2 h1
    have k2 : A' * A < A * A := Int.mul_lt_mul_of_pos_right hlt (by omega)
    omega
  have hy1 : 0 < y * y := by
    rcases Int.lt_or_eq_of_le hy with h | h
    · exact h
    · rcases Int.mul_eq_zero.1 h.symm with h | h <;> exact absurd h hy0
  exact Int.mul_lt_mul_of_pos_right hA' hy1

/-- On the way from a corner, nothing on its edge's line is farther than the next corner. -/
theorem Ring.farthest {S h : List Pt} (R : Ring S h) {i : Nat} (hi : i < h.length) {x : Pt} (hx : x ∈ S) (hs : side (at_ h i) (at_ h (nx h i)) x = 0) (hne : x ≠ at_ h (nx h i)) : far (at_ h i) x < far (at_ h i) (at_ h (nx h i)) := by
  obtain ⟨A, A', a1, a2, a3, a4, a5⟩ := R.seg hi hx hs
  have hn := nx_lt R.pos i
  generalize hv : at_ h i = v at *
  generalize hb : at_ h (nx h i) = b at *
  have hlt : A' < A := by
    rcases Int.lt_or_eq_of_le a3 with h | h
    · exact h
    · exfalso
      subst h
      have e1 := Int.eq_of_mul_eq_mul_left (by omega) a4
      have e2 := Int.eq_of_mul_eq_mul_left (by omega) a5
      exact hne (Prod.ext (by omega) (by omega))
  have hvb : ¬ (b.1 - v.1 = 0 ∧ b.2 - v.2 = 0) := fun e => by
    have hbv : at_ h (nx h i) = at_ h i := by rw [hb, hv]; exact Prod.ext (by omega) (by omega)
    have := R.inj hn hi hbv
    have hl := R.len
    rw [nx_val hi] at this
    split at this <;> omega
  obtain ⟨p1, p2⟩ := sq_le a2 a3 a4
  obtain ⟨q1, q2⟩ := sq_le a2 a3 a5
  have tot : A * A * ((x.1 - v.1) * (x.1 - v.1)) + A * A * ((x.2 - v.2) * (x.2 - v.2)) < A * A * ((b.1 - v.1) * (b.1 - v.1)) + A * A * ((b.2 - v.2) * (b.2 - v.2)) := by
    by_cases h0 : b.1 - v.1 = 0
    · have := q2 hlt (fun e => hvb ⟨h0, e⟩); omega
    · have := p2 hlt h0; omega
  rw [← Int.mul_add, ← Int.mul_add] at tot
  have := Int.lt_of_mul_lt_mul_left tot (by exact mul_nn (by omega) (by omega))
  have e1 : far v x = (x.1 - v.1) * (x.1 - v.1) + (x.2 - v.2) * (x.2 - v.2) := by unfold far; grind
  have e2 : far v b = (b.1 - v.1) * (b.1 - v.1) + (b.2 - v.2) * (b.2 - v.2) := by unfold far; grind
  rw [e1, e2]; exact this

/-- Wrapping finds the next corner. -/
theorem Ring.wrap {S h : List Pt} (R : Ring S h) {i : Nat} (hi : i < h.length) : ∀ (l : List Pt) (out : Pt), (∀ x ∈ l, x ∈ S) → out ∈ S → (out = at_ h (nx h i) ∨ at_ h (nx h i) ∈ l) → wrapN (at_ h i) l out = at_ h (nx h i) := by
  intro l
  have hn := nx_lt R.pos i
  have hbv : at_ h (nx h i) ≠ at_ h i := fun e => by
    have := R.inj hn hi e
    have hl := R.len
    rw [nx_val hi] at this
    split at this <;> omega
  have keep : ∀ x ∈ S, wrap1 (at_ h i) (at_ h (nx h i)) x = at_ h (nx h i) := fun x hx => by
    unfold wrap1
    split
    · rfl
    · have hle := R.left i hi x hx
      rw [if_neg (by omega)]
      split
      · rename_i hs
        by_cases hxb : x = at_ h (nx h i)
        · subst hxb; rw [if_neg (by omega)]
        · have := R.farthest hi hx hs hxb
          rw [if_neg (by omega)]
      · rfl
  have take : ∀ out ∈ S, wrap1 (at_ h i) out (at_ h (nx h i)) = at_ h (nx h i) := fun out ho => by
    unfold wrap1
    rw [if_neg hbv]
    split
    · rfl
    · have hle := R.left i hi out ho
      have hsw : side (at_ h i) out (at_ h (nx h i)) = - side (at_ h i) (at_ h (nx h i)) out := by unfold side; grind
      split
      · rfl
      · rename_i h1
        have hs : side (at_ h i) (at_ h (nx h i)) out = 0 := by omega
        rw [if_pos (by omega)]
        by_cases hob : out = at_ h (nx h i)
        · subst hob; split <;> rfl
        · rw [if_pos (R.farthest hi ho hs hob)]
  induction l with
  | nil =>
    intro out _ _ ho
    rcases ho with h | h
    · exact h
    · simp at h
  | cons x l ih =>
    intro out hl hout ho
    have e : wrapN (at_ h i) (x :: l) out = wrapN (at_ h i) l (wrap1 (at_ h i) out x) := rfl
    rw [e]
    have hx : x ∈ S := hl x (by simp)
    have hw : wrap1 (at_ h i) out x ∈ S := by
      unfold wrap1
      repeat' split
      all_goals first | exact hout | exact hx
    refine ih _ (fun y hy => hl y (List.mem_cons_of_mem _ hy)) hw ?_
    by_cases hxb : x = at_ h (nx h i)
    · subst hxb; exact .inl (take out hout)
    · rcases ho with h | h
      · subst h; exact .inl (keep x hx)
      · rcases List.mem_cons.1 h with h | h
        · exact absurd h.symm hxb
        · exact .inr h

/-- The way round, as the reference goes it: at most k more corners. -/
def wrapAll (l : List Pt) (o : Pt) : Nat → List Pt → Pt → List Pt
  | 0, out, _ => out
  | k + 1, out, v => let w := wrapN v l v; if w = o then out else wrapAll l o k (out ++ [w]) w

theorem Ring.wrapAll_eq {l h : List Pt} (R : Ring l h) : ∀ (k i : Nat), i < h.length → h.length ≤ k + i + 1 → wrapAll l (at_ h 0) (k + 1) (h.take (i + 1)) (at_ h i) = h := by
  intro k
  induction k with
  | zero =>
    intro i hi hk
    have hlast : i + 1 = h.length := by omega
    have hw := R.wrap hi l (at_ h i) (fun _ hx => hx) (R.mem hi) (.inr (R.mem (nx_lt R.pos i)))
    have hn : nx h i = 0 := by rw [nx_val hi, if_pos hlast]
    rw [hn] at hw
    simp only [wrapAll, hw, if_true]
    exact List.take_of_length_le (by omega)
  | succ k ih =>
    intro i hi hk
    have hw := R.wrap hi l (at_ h i) (fun _ hx => hx) (R.mem hi) (.inr (R.mem (nx_lt R.pos i)))
    by_cases hlast : i + 1 = h.length
    · have hn : nx h i = 0 := by rw [nx_val hi, if_pos hlast]
      rw [hn] at hw
      rw [wrapAll]
      simp only [hw, if_true]
      exact List.take_of_length_le (by omega)
    · have hn : nx h i = i + 1 := by rw [nx_val hi, if_neg hlast]
      rw [hn] at hw
      have hne : at_ h (i + 1) ≠ at_ h 0 := fun e => by
        have := R.inj (by omega) R.pos e
        omega
      rw [wrapAll]
      simp only [hw, if_neg hne]
      have := ih (i + 1) (by omega) (by omega)
      have e : h.take (i + 1) ++ [at_ h (i + 1)] = h.take (i + 1 + 1) := by rw [List.take_add_one (i := i + 1), get_at (by omega)]; rfl
      rw [e]; exact this
theorem wrapAll_mem (l : List Pt) (o : Pt) : ∀ (k : Nat) (out : List Pt) (v : Pt), v ∈ l → (∀ x ∈ out, x ∈ l) → ∀ x ∈ wrapAll l o k out v, x ∈ l := by
  intro k
  induction k with
  | zero => intro out v _ h; exact h
  | succ k ih =>
    intro out v hv h
    unfold wrapAll
    simp only
    split
    · exact h
    · have hw : wrapN v l v ∈ l := by
        rcases wrapN_mem v l v with e | e
        · rw [e]; exact hv
        · exact e
      exact ih _ _ hw fun x hx => by
        rcases List.mem_append.1 hx with hx | hx
        · exact h x hx
        · simp only [List.mem_singleton] at hx; rw [hx]; exact hw

/-- Strictly convex, corner by corner. -/
def convexB (l : List Pt) : Bool := decide (2 < l.length) && (List.range l.length).all fun i => (List.range l.length).all fun j => decide (j = i) || decide (j = nx l i) || decide (0 < side (at_ l i) (at_ l (nx l i)) (at_ l j))
theorem Ring.convex {S h : List Pt} (R : Ring S h) : convexB h = true := by
  have hl := R.len
  simp only [convexB, Bool.and_eq_true, decide_eq_true_eq, List.all_eq_true, List.mem_range, Bool.or_eq_true]
  refine ⟨by omega, fun i hi j hj => ?_⟩
  by_cases h1 : j = i
  · exact .inl (.inl h1)
  · by_cases h2 : j = nx h i
    · exact .inl (.inr h2)
    · exact .inr (R.strict i hi j hj h1 h2)
theorem convex_line {l : List Pt} (h : ∀ a b c, a ∈ l → b ∈ l → c ∈ l → side a b c = 0) : convexB l = false := by
  rw [Bool.eq_false_iff]
  intro hc
  simp only [convexB, Bool.and_eq_true, decide_eq_true_eq, List.all_eq_true, List.mem_range, Bool.or_eq_true] at hc
  have h1 : nx l 0 = 1 := by rw [nx_val (by omega), if_neg (by omega)]
  have := hc.2 0 (by omega) 2 (by omega)
  rw [h1] at this
  have h0 := h _ _ _ (at_mem (h := l) (i := 0) (by omega)) (at_mem (h := l) (i := 1) (by omega)) (at_mem (h := l) (i := 2) (by omega))
  omega

/-- In a convex polygon, or on its boundary. -/
def inB (p : List Pt) (x : Pt) : Bool := decide (0 < p.length) && (List.range p.length).all fun i => decide (0 ≤ side (at_ p i) (at_ p (nx p i)) x)
theorem Ring.inB {S h : List Pt} (R : Ring S h) {x : Pt} (hx : x ∈ S) : inB h x = true := by
  simp only [Hu.inB, Bool.and_eq_true, decide_eq_true_eq, List.all_eq_true, List.mem_range]
  exact ⟨R.pos, fun i hi => R.left i hi x hx⟩

/-- The smallest point. -/
def firstP (o : Pt) (l : List Pt) : Pt := l.foldl (fun f x => if x.1 < f.1 ∨ (x.1 = f.1 ∧ x.2 < f.2) then x else f) o
theorem firstP_spec : ∀ (l : List Pt) (o : Pt), (firstP o l = o ∨ firstP o l ∈ l) ∧ (∀ q, q = o ∨ q ∈ l → q = firstP o l ∨ before true (firstP o l) q) := by
  intro l
  induction l with
  | nil => intro o; exact ⟨.inl rfl, fun q hq => .inl (by rcases hq with h | h; exact h; simp at h)⟩
  | cons x l ih =>
    intro o
    have e : firstP o (x :: l) = firstP (if x.1 < o.1 ∨ (x.1 = o.1 ∧ x.2 < o.2) then x else o) l := rfl
    rw [e]
    by_cases hb : x.1 < o.1 ∨ (x.1 = o.1 ∧ x.2 < o.2)
    · rw [if_pos hb]
      obtain ⟨i1, i2⟩ := ih x
      refine ⟨?_, fun q hq => ?_⟩
      · rcases i1 with h | h
        · rw [h]; exact .inr (by simp)
        · exact .inr (List.mem_cons_of_mem _ h)
      · rcases hq with rfl | hq
        · have hb' : before true x q := hb
          rcases i2 x (.inl rfl) with h | h
          · rw [← h]; exact .inr hb'
          · exact .inr (before_trans h hb')
        · rcases List.mem_cons.1 hq with rfl | hq
          · exact i2 _ (.inl rfl)
          · exact i2 q (.inr hq)
    · rw [if_neg hb]
      obtain ⟨i1, i2⟩ := ih o
      refine ⟨?_, fun q hq => ?_⟩
      · rcases i1 with h | h
        · exact .inl h
        · exact .inr (List.mem_cons_of_mem _ h)
      · rcases hq with rfl | hq
        · exact i2 _ (.inl rfl)
        · rcases List.mem_cons.1 hq with rfl | hq
          · have hle : q = o ∨ before true o q := by
              rcases before_total true q o with h | h | h
              · exact absurd h hb
              · exact .inl h
              · exact .inr h
            rcases hle with rfl | hle
            · exact i2 _ (.inl rfl)
            · rcases i2 o (.inl rfl) with h | h
              · rw [← h]; exact .inr hle
              · exact .inr (before_trans h hle)
          · exact i2 q (.inr hq)

theorem nodup_le : ∀ (h l : List Pt), h.Nodup → (∀ x ∈ h, x ∈ l) → h.length ≤ l.length := by
  intro h
  induction h with
  | nil => intro l _ _; simp
  | cons x h ih =>
    intro l hn hs
    obtain ⟨n1, n2⟩ := List.nodup_cons.1 hn
    have hx := hs x (by simp)
    have := ih (l.erase x) n2 fun y hy => (List.mem_erase_of_ne (fun e => n1 (by rw [← e]; exact hy))).2 (hs y (List.mem_cons_of_mem _ hy))
    rw [List.length_erase_of_mem hx] at this
    have hp : 0 < l.length := List.length_pos_of_mem hx
    simp only [List.length_cons]
    omega

/-- The reference's hull. -/
def refRes : List Pt → List Pt × Bool
  | [] => ([], false)
  | o :: l =>
    if (o :: l).length < 3 then ([], false) else
    let f := firstP o l
    let out := wrapAll (o :: l) f (o :: l).length [f] f
    if convexB out = true then (out, true) else ([], false)
theorem refRes_cons (o : Pt) (l : List Pt) : refRes (o :: l) = if (o :: l).length < 3 then ([], false) else if convexB (wrapAll (o :: l) (firstP o l) (o :: l).length [firstP o l] (firstP o l)) = true then (wrapAll (o :: l) (firstP o l) (o :: l).length [firstP o l] (firstP o l), true) else ([], false) := rfl
theorem refRes_eq (l : List Pt) : refRes l = hullRes l := by
  cases l with
  | nil =>
    have : sortPts [] = [] := List.eq_nil_of_length_eq_zero (by rw [sort_length]; rfl)
    unfold hullRes
    rw [this]
    rfl
  | cons o l =>
    have hf := firstP_spec l o
    have hfm : firstP o l ∈ o :: l := by
      rcases hf.1 with h | h
      · rw [h]; simp
      · exact List.mem_cons_of_mem _ h
    rw [refRes_cons]
    rcases hullRes_spec (o :: l) with ⟨h1, h2⟩ | ⟨h, h1, R⟩
    · rw [h1]
      split
      · rfl
      · rw [if_neg]
        rw [convex_line fun a b c ha hb hc => h2 a b c (wrapAll_mem _ _ _ _ _ hfm (fun x hx => by rw [List.mem_singleton.1 hx]; exact hfm) _ ha) (wrapAll_mem _ _ _ _ _ hfm (fun x hx => by rw [List.mem_singleton.1 hx]; exact hfm) _ hb) (wrapAll_mem _ _ _ _ _ hfm (fun x hx => by rw [List.mem_singleton.1 hx]; exact hfm) _ hc)]
        simp
    · rw [h1]
      -- as many points as corners
      have hnd : h.Nodup := by
        unfold List.Nodup
        rw [List.pairwise_iff_getElem]
        intro i j hi hj hij e
        have e1 : at_ h i = h[i] := at_of (List.getElem?_eq_getElem hi)
        have e2 : at_ h j = h[j] := at_of (List.getElem?_eq_getElem hj)
        have := R.inj hi hj (by rw [e1, e2]; exact e)
        omega
      have hle : h.length ≤ (o :: l).length := nodup_le h _ hnd R.sub
      have hl3 := R.len
      rw [if_neg (by omega)]
      have hfirst : firstP o l = at_ h 0 := by
        have hm := R.mem R.pos
        rcases R.first _ hfm with e | e
        · exact e
        · rcases hf.2 (at_ h 0) (List.mem_cons.1 hm) with e' | e'
          · exact e'.symm
          · exact (before_asymm e e').elim
      simp only [hfirst]
      have hout : wrapAll (o :: l) (at_ h 0) (o :: l).length [at_ h 0] (at_ h 0) = h := by
        have := R.toRing.wrapAll_eq l.length 0 R.pos (by simp only [List.length_cons] at hle; omega)
        have e : h.take (0 + 1) = [at_ h 0] := by rw [List.take_add_one, get_at R.pos]; rfl
        rw [e] at this
        exact this
      rw [hout, if_pos R.convex]
end Go.Hu
