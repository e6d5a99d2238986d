import Derived.Test.YtgjaamjbagoieaaBHuJ4
set_option linter.unusedVariables false
set_option linter.unusedSimpArgs false
set_option linter.unnecessarySimpa false
/-
  Polygons as lists of corners: their edges, how often they run round a point, and what a corner sees.
-/
namespace Go.Hu

def pe : List Pt → List (Pt × Pt)
  | a :: b :: l => (a, b) :: pe (b :: l)
  | _ => []
def ed : List Pt → List (Pt × Pt)
  | [] => []
  | a :: l => pe (a :: (l ++ [a]))
def sm (g : Pt × Pt → Int) : List (Pt × Pt) → Int
  | [] => 0
  | e :: l => g e + sm g l
def lst (t : Pt) : List Pt → Pt
  | [] => t
  | b :: l => lst b l
theorem sm_app (g : Pt × Pt → Int) (a b : List (Pt × Pt)) : sm g (a ++ b) = sm g a + sm g b := by
  induction a with
  | nil => simp [sm]
  | cons x a ih => simp only [List.cons_append, sm, ih]; omega
theorem sm_sub (g h : Pt × Pt → Int) (l : List (Pt × Pt)) : sm (fun e => g e - h e) l = sm g l - sm h l := by
  induction l with
  | nil => simp [sm]
  | cons x l ih => simp only [sm, ih]; omega
theorem sm_congr {g h : Pt × Pt → Int} {l : List (Pt × Pt)} (k : ∀ e ∈ l, g e = h e) : sm g l = sm h l := by
  induction l with
  | nil => rfl
  | cons x l ih => simp only [sm, k x (by simp), ih fun e he => k e (by simp [he])]
theorem sm_zero {g : Pt × Pt → Int} {l : List (Pt × Pt)} (k : ∀ e ∈ l, g e = 0) : sm g l = 0 := by
  induction l with
  | nil => rfl
  | cons x l ih => simp only [sm, k x (by simp), ih fun e he => k e (by simp [he])]; rfl
theorem pe_glue (x : Pt) (B : List Pt) : ∀ A : List Pt, pe (A ++ x :: B) = pe (A ++ [x]) ++ pe (x :: B) := by
  intro A
  induction A with
  | nil => simp [pe]
  | cons a A ih =>
    cases A with
    | nil => simp [pe]
    | cons b A => simpa [pe] using ih
theorem pe_mem {l : List Pt} : ∀ {a b : Pt}, (a, b) ∈ pe l → a ∈ l ∧ b ∈ l := by
  induction l with
  | nil => intro a b h; simp [pe] at h
  | cons x l ih =>
    intro a b h
    cases l with
    | nil => simp [pe] at h
    | cons y l =>
      simp only [pe, List.mem_cons, Prod.mk.injEq] at h
      rcases h with ⟨rfl, rfl⟩ | h
      · simp
      · have := ih h
        exact ⟨List.mem_cons_of_mem _ this.1, List.mem_cons_of_mem _ this.2⟩
theorem lst_app (x : Pt) : ∀ (l : List Pt) (t : Pt), lst t (l ++ [x]) = x := by
  intro l
  induction l with
  | nil => intro t; rfl
  | cons b l ih => intro t; exact ih b
theorem lst_mem : ∀ (l : List Pt) (t : Pt), lst t l ∈ t :: l := by
  intro l
  induction l with
  | nil => intro t; simp [lst]
  | cons b l ih => intro t; exact List.mem_cons_of_mem _ (ih b)
theorem pe_snoc (x : Pt) : ∀ (l : List Pt) (t : Pt), pe (t :: (l ++ [x])) = pe (t :: l) ++ [(lst t l, x)] := by
  intro l
  induction l with
  | nil => intro t; simp [pe, lst]
  | cons b l ih => intro t; simp only [List.cons_append, pe, lst, ih]
theorem ed_cons (v w : Pt) (L : List Pt) : ed (v :: w :: L) = (v, w) :: (pe (w :: L) ++ [(lst w L, v)]) := by
  simp only [ed, List.cons_append, pe, pe_snoc]
theorem tele (g : Pt → Int) : ∀ (l : List Pt) (t : Pt), sm (fun e => g e.2 - g e.1) (pe (t :: l)) = g (lst t l) - g t := by
  intro l
  induction l with
  | nil => intro t; simp [pe, sm, lst]
  | cons b l ih => intro t; simp only [pe, sm, lst, ih]; omega
theorem tele_ed (g : Pt → Int) : ∀ P : List Pt, sm (fun e => g e.2 - g e.1) (ed P) = 0 := by
  intro P
  cases P with
  | nil => rfl
  | cons a l => simp only [ed]; rw [tele, lst_app]; omega
theorem ed_mem {P : List Pt} {a b : Pt} (h : (a, b) ∈ ed P) : a ∈ P ∧ b ∈ P := by
  cases P with
  | nil => simp [ed] at h
  | cons x l =>
    have := pe_mem h
    simp only [List.mem_cons, List.mem_append, List.not_mem_nil, or_false] at this ⊢
    exact ⟨by rcases this.1 with h | h | h <;> simp [h], by rcases this.2 with h | h | h <;> simp [h]⟩
/-- Turned edges are the same. -/
theorem ed_app (a b : Pt) (A B : List Pt) : ed (a :: A ++ b :: B) = pe (a :: A ++ [b]) ++ pe (b :: B ++ [a]) := by
  have : a :: A ++ b :: B = a :: (A ++ b :: B) := rfl
  rw [this]
  simp only [ed]
  have e : a :: (A ++ b :: B ++ [a]) = (a :: A) ++ b :: (B ++ [a]) := by simp
  rw [e, pe_glue]
  rfl
theorem ed_rot_mem (A B : List Pt) (e : Pt × Pt) : e ∈ ed (A ++ B) ↔ e ∈ ed (B ++ A) := by
  cases A with
  | nil => simp
  | cons a A =>
    cases B with
    | nil => simp
    | cons b B => rw [ed_app, ed_app, List.mem_append, List.mem_append]; exact Or.comm
theorem ed_rot_sm (g : Pt × Pt → Int) (A B : List Pt) : sm g (ed (A ++ B)) = sm g (ed (B ++ A)) := by
  cases A with
  | nil => simp
  | cons a A =>
    cases B with
    | nil => simp
    | cons b B => rw [ed_app, ed_app, sm_app, sm_app]; omega

def wind (P : List Pt) (x : Pt) : Int := sm (fun e => cr e.1 e.2 x) (ed P)
theorem wind_rot (A B : List Pt) (x : Pt) : wind (A ++ B) x = wind (B ++ A) x := ed_rot_sm _ _ _
theorem wind_move {P : List Pt} {x y : Pt} (h : ∀ e ∈ ed P, ¬ Meet e.1 e.2 x y) : wind P y = wind P x := by
  have e : sm (fun e => cr e.1 e.2 y - cr e.1 e.2 x) (ed P) = sm (fun e => Rr x y e.2 - Rr x y e.1) (ed P) := sm_congr fun e he => k_edge (h e he)
  rw [sm_sub, tele_ed] at e
  unfold wind
  omega

def lam (v w : Pt) (L : List Pt) : Int := sm (fun e => cr e.1 e.2 v) (pe (w :: L)) - luu v (lst w L) w
theorem phi' {v u y : Pt} (h : ¬ On v u y) (k : ¬ On v y u) : cr u v y + Rr v y u = low v y - luy v u y := by
  refine phi fun a b e => ?_
  by_cases c : u.2 = v.2
  · have d := hor_side (b := y) c
    rw [e] at d
    have : u.1 = v.1 := by
      rcases Int.mul_eq_zero.1 d.symm with g | g <;> omega
    exact k ((Prod.ext this c : u = v) ▸ on_l _ _)
  · exact (same_dir e (.inl ⟨by omega, b⟩)).elim h k
/-- What a corner sees. -/
theorem sector {v w : Pt} {L : List Pt} {y : Pt} (h : ∀ e ∈ pe (w :: L), ¬ Meet e.1 e.2 v y) (o1 : ¬ On v (lst w L) y) (o2 : ¬ On v y (lst w L)) (o3 : ¬ On v w y) (o4 : ¬ On v y w) :
    wind (v :: w :: L) y = lam v w L + sec v (lst w L) w y := by
  have e : sm (fun e => cr e.1 e.2 y - cr e.1 e.2 v) (pe (w :: L)) = sm (fun e => Rr v y e.2 - Rr v y e.1) (pe (w :: L)) := sm_congr fun e he => k_edge (h e he)
  rw [sm_sub, tele] at e
  have p1 := phi' o1 o2
  have p2 := phi' o3 o4
  have s := cr_swap w v y
  unfold wind
  rw [ed_cons]
  simp only [sm, sm_app]
  unfold lam sec
  omega
theorem lam_step {v w t : Pt} {L : List Pt} (h : ∀ e ∈ pe (t :: L), ¬ Meet e.1 e.2 v w) (o1 : ¬ On v (lst t L) w) (o2 : ¬ On v w (lst t L)) (o3 : ¬ On w t v) (o4 : ¬ On w v t) (hn : v ≠ w) : lam w t (L ++ [v]) = lam v w (t :: L) := by
  have e : sm (fun e => cr e.1 e.2 w - cr e.1 e.2 v) (pe (t :: L)) = sm (fun e => Rr v w e.2 - Rr v w e.1) (pe (t :: L)) := sm_congr fun e he => k_edge (h e he)
  rw [sm_sub, tele] at e
  have p1 := phi' o1 o2
  have p2 := phi' o3 o4
  have c1 := c_one o1 o2
  have c2 := c_one o3 o4
  have c3 := c_two o3 o4
  have s := cr_swap t w v
  have r := Rr_swap v w t
  have q := lowx_swap hn
  unfold lam
  rw [pe_snoc, lst_app, sm_app]
  simp only [pe, sm, lst]
  omega

/-! ### Far away -/
theorem far_id (a b y : Pt) (dx dy : Int) : (b.2 - y.2) * (dx * (a.1 - y.1) + dy * (a.2 - y.2)) + (y.2 - a.2) * (dx * (b.1 - y.1) + dy * (b.2 - y.2)) = dx * side a b y := by unfold side; grind
theorem wind_far {P : List Pt} {y : Pt} (dx dy : Int) (h : ∀ p ∈ P, 0 < dx * (p.1 - y.1) + dy * (p.2 - y.2)) : wind P y = 0 := by
  have up : ∀ a b : Pt, a ∈ P → b ∈ P → a.2 ≤ y.2 → y.2 < b.2 → 0 < dx * side a b y := fun a b ha hb h1 h2 => by
    have e := far_id a b y dx dy
    have q1 := pp (show 0 < b.2 - y.2 by omega) (h a ha)
    have q2 := pp0 (show 0 ≤ y.2 - a.2 by omega) (Int.le_of_lt (h b hb))
    omega
  by_cases hx : 0 < dx
  · have e : wind P y = sm (fun e => (if e.1.2 ≤ y.2 then 1 else 0) - (if e.2.2 ≤ y.2 then 1 else 0)) (ed P) := sm_congr fun e he => by
      obtain ⟨m1, m2⟩ := ed_mem (a := e.1) (b := e.2) he
      by_cases c1 : e.1.2 ≤ y.2 <;> by_cases c2 : e.2.2 ≤ y.2
      · rw [cr_n (by omega), if_pos c1, if_pos c2]; rfl
      · have := posR hx (up _ _ m1 m2 c1 (by omega))
        rw [cr_u c1 (by omega), if_pos c1, if_neg c2, if_pos this]; rfl
      · have := posR hx (up _ _ m2 m1 c2 (by omega))
        rw [cr_d c2 (by omega), if_neg c1, if_pos c2, if_pos (by rw [side_swap]; omega)]; rfl
      · rw [cr_n (by omega), if_neg c1, if_neg c2]; rfl
    have t := tele_ed (fun p => -(if p.2 ≤ y.2 then 1 else 0)) P
    rw [e]
    exact (sm_congr fun e _ => by split <;> split <;> rfl).trans t
  · refine sm_zero fun e he => ?_
    obtain ⟨m1, m2⟩ := ed_mem (a := e.1) (b := e.2) he
    by_cases c1 : e.1.2 ≤ y.2 <;> by_cases c2 : e.2.2 ≤ y.2
    · exact cr_n (by omega)
    · have := (posL0 (by omega) (up _ _ m1 m2 c1 (by omega))).2
      rw [cr_u c1 (by omega), if_neg (by omega)]
    · have := (posL0 (by omega) (up _ _ m2 m1 c2 (by omega))).2
      rw [cr_d c2 (by omega), if_neg (by rw [side_swap]; omega)]
    · exact cr_n (by omega)

/-! ### Common points -/
theorem on_comb {a b p : Pt} (h : On a b p) : ∃ s t : Int, 0 ≤ s ∧ 0 ≤ t ∧ 0 < s + t ∧ (s + t) * p.1 = s * a.1 + t * b.1 ∧ (s + t) * p.2 = s * a.2 + t * b.2 := by
  obtain ⟨h1, h2, h3⟩ := h
  unfold side at h1
  by_cases c : a.1 = b.1
  · by_cases c2 : a.2 = b.2
    · exact ⟨1, 0, by omega, by omega, by omega, by omega, by omega⟩
    · rcases h3 with h3 | h3
      · exact ⟨b.2 - p.2, p.2 - a.2, by omega, by omega, by omega, by grind, by grind⟩
      · exact ⟨p.2 - b.2, a.2 - p.2, by omega, by omega, by omega, by grind, by grind⟩
  · rcases h2 with h2 | h2
    · exact ⟨b.1 - p.1, p.1 - a.1, by omega, by omega, by omega, by grind, by grind⟩
    · exact ⟨p.1 - b.1, a.1 - p.1, by omega, by omega, by omega, by grind, by grind⟩
theorem meet_comb {a b c d : Pt} (h : Meet a b c d) : ∃ s t s' t' : Int, 0 ≤ s ∧ 0 ≤ t ∧ 0 ≤ s' ∧ 0 ≤ t' ∧ 0 < s + t ∧ s + t = s' + t' ∧ s * a.1 + t * b.1 = s' * c.1 + t' * d.1 ∧ s * a.2 + t * b.2 = s' * c.2 + t' * d.2 := by
  rcases h with h | h | h | h | h
  · obtain ⟨s, t, h1, h2, h3, h4, h5⟩ := on_comb h
    exact ⟨s, t, s + t, 0, h1, h2, by omega, by omega, h3, by omega, by omega, by omega⟩
  · obtain ⟨s, t, h1, h2, h3, h4, h5⟩ := on_comb h
    exact ⟨s, t, 0, s + t, h1, h2, by omega, by omega, h3, by omega, by omega, by omega⟩
  · obtain ⟨s, t, h1, h2, h3, h4, h5⟩ := on_comb h
    exact ⟨s + t, 0, s, t, by omega, by omega, h1, h2, by omega, by omega, by omega, by omega⟩
  · obtain ⟨s, t, h1, h2, h3, h4, h5⟩ := on_comb h
    exact ⟨0, s + t, s, t, by omega, by omega, h1, h2, by omega, by omega, by omega, by omega⟩
  · have e0 := wt_sum a b c d
    have e1 := wt_1 a b c d
    have e2 := wt_2 a b c d
    obtain ⟨h1, h2⟩ := h
    generalize side c d b = V at *
    generalize side c d a = U at *
    generalize side a b c = P at *
    generalize side a b d = Q at *
    rcases h2 with h2 | h2
    · rcases h1 with h1 | h1
      · exfalso; omega
      · exact ⟨-V, U, Q, -P, by omega, by omega, by omega, by omega, by omega, by omega, by grind, by grind⟩
    · rcases h1 with h1 | h1
      · exact ⟨V, -U, -Q, P, by omega, by omega, by omega, by omega, by omega, by omega, by grind, by grind⟩
      · exfalso; omega
theorem sep_nomeet {a b c d : Pt} (dx dy k : Int) (h1 : k < dx * a.1 + dy * a.2) (h2 : k < dx * b.1 + dy * b.2) (h3 : dx * c.1 + dy * c.2 ≤ k) (h4 : dx * d.1 + dy * d.2 ≤ k) : ¬ Meet a b c d := by
  intro h
  obtain ⟨s, t, s', t', p1, p2, p3, p4, p5, p6, e1, e2⟩ := meet_comb h
  have q : s * (dx * a.1 + dy * a.2 - k) + t * (dx * b.1 + dy * b.2 - k) = s' * (dx * c.1 + dy * c.2 - k) + t' * (dx * d.1 + dy * d.2 - k) := by grind
  have r1 := pn0 p3 (show dx * c.1 + dy * c.2 - k ≤ 0 by omega)
  have r2 := pn0 p4 (show dx * d.1 + dy * d.2 - k ≤ 0 by omega)
  have r3 := pp0 p1 (show 0 ≤ dx * a.1 + dy * a.2 - k by omega)
  have r4 := pp0 p2 (show 0 ≤ dx * b.1 + dy * b.2 - k by omega)
  rcases Int.lt_or_le 0 s with g | g
  · have := pp g (show 0 < dx * a.1 + dy * a.2 - k by omega)
    omega
  · have := pp (show 0 < t by omega) (show 0 < dx * b.1 + dy * b.2 - k by omega)
    omega
end Go.Hu
