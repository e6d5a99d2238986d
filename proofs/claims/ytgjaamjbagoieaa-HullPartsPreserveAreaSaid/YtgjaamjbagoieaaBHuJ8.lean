import Derived.Test.YtgjaamjbagoieaaBHuJ7
set_option linter.unusedVariables false
set_option linter.unusedSimpArgs false
set_option linter.unnecessarySimpa false
/-
  Every simple polygon that runs to the left has an ear.
-/
namespace Go.Hu

theorem pe_fst {z : Pt} : ∀ {l : List Pt} {a b : Pt}, (a, b) ∈ pe (l ++ [z]) → a ∈ l := by
  intro l
  induction l with
  | nil => intro a b h; simp [pe] at h
  | cons x l ih =>
    intro a b h
    cases l with
    | nil => simp [pe] at h; simp [h.1]
    | cons y l =>
      simp only [List.cons_append, pe, List.mem_cons, Prod.mk.injEq] at h
      rcases h with ⟨rfl, rfl⟩ | h
      · simp
      · exact List.mem_cons_of_mem _ (ih h)
theorem pe_snd {x : Pt} : ∀ {l : List Pt} {a b : Pt}, (a, b) ∈ pe (x :: l) → b ∈ l := by
  intro l
  induction l generalizing x with
  | nil => intro a b h; simp [pe] at h
  | cons y l ih =>
    intro a b h
    simp only [pe, List.mem_cons, Prod.mk.injEq] at h
    rcases h with ⟨rfl, rfl⟩ | h
    · simp
    · exact List.mem_cons_of_mem _ (ih h)
theorem pe_out {z p : Pt} : ∀ {l : List Pt}, p ∈ l → ∃ q, (p, q) ∈ pe (l ++ [z]) := by
  intro l
  induction l with
  | nil => intro h; simp at h
  | cons x l ih =>
    intro h
    cases l with
    | nil => simp at h; subst h; exact ⟨z, by simp [pe]⟩
    | cons y l =>
      rcases List.mem_cons.1 h with rfl | h
      · exact ⟨y, by simp [pe]⟩
      · obtain ⟨q, hq⟩ := ih h
        exact ⟨q, by simp only [List.cons_append, pe, List.mem_cons]; exact .inr hq⟩
theorem ed_out {P : List Pt} {p : Pt} (h : p ∈ P) : ∃ q, (p, q) ∈ ed P := by
  cases P with
  | nil => simp at h
  | cons a l => exact pe_out (z := a) (l := a :: l) h
theorem Simple.vertex_on {P : List Pt} (S : Simple P) {c d p : Pt} (he : (c, d) ∈ ed P) (hp : p ∈ P) (h : On c d p) : p = c ∨ p = d := by
  obtain ⟨q, hq⟩ := ed_out hp
  by_cases e : ((c, d) : Pt × Pt) = (p, q)
  · exact .inl (Prod.mk.inj e).1.symm
  · exact .inr ((S.nx _ _ _ _ he hq e).1 h)
theorem Simple.no_crs {P : List Pt} (S : Simple P) {c d a b : Pt} (h1 : (c, d) ∈ ed P) (h2 : (a, b) ∈ ed P) : ¬ Crs c d a b := by
  by_cases e : ((c, d) : Pt × Pt) = (a, b)
  · obtain ⟨rfl, rfl⟩ := Prod.mk.inj e
    intro h
    have := h.1
    rw [side_self2] at this
    omega
  · exact (S.nx _ _ _ _ h1 h2 e).2.2.2.2

/-- In the triangle, and on the line of a side: on the side. -/
theorem inT_on1 {a e b y : Pt} (hD : 0 < side a e b) (h : InT a e b y) (z : side a e y = 0) : On a e y := by
  have s := bary_sum a e b y
  by_cases c1 : side e b y = 0
  · have b1 := bary a e b y
    have k1 : side a e b * (y.1 - e.1) = 0 := by unfold side at *; grind
    have k2 : side a e b * (y.2 - e.2) = 0 := by unfold side at *; grind
    have := (Int.mul_eq_zero.1 k1).resolve_left (by omega)
    have := (Int.mul_eq_zero.1 k2).resolve_left (by omega)
    rw [show y = e from Prod.ext (by omega) (by omega)]
    exact on_r a e
  · have e1 : side a e b * (y.1 - e.1) = side e b y * (a.1 - e.1) := by unfold side at *; grind
    have e2 : side a e b * (y.2 - e.2) = side e b y * (a.2 - e.2) := by unfold side at *; grind
    have b1 := in_box hD h.2.1 (by have := h.2.2; omega) e1
    have b2 := in_box hD h.2.1 (by have := h.2.2; omega) e2
    exact on_comm.1 (on_edge.2 (by
      unfold edgeB
      simp only [Bool.and_eq_true, decide_eq_true_eq]
      exact ⟨by rw [side_swap]; omega, b1.1, b1.2, b2.1, b2.2⟩))
theorem inT_cyc {a e b y : Pt} : InT a e b y ↔ InT e b a y := by unfold InT; omega
theorem side_cyc2 (a b c : Pt) : side a b c = side c a b := by rw [← side_cyc]
theorem inT_on2 {a e b y : Pt} (hD : 0 < side a e b) (h : InT a e b y) (z : side e b y = 0) : On e b y :=
  inT_on1 (a := e) (e := b) (b := a) (by rw [← side_cyc]; exact hD) (inT_cyc.1 h) z
theorem inT_on3 {a e b y : Pt} (hD : 0 < side a e b) (h : InT a e b y) (z : side b a y = 0) : On b a y :=
  inT_on1 (a := b) (e := a) (b := e) (by rw [← side_cyc2]; exact hD) (inT_cyc.1 (inT_cyc.1 h)) z
theorem inT_conv {a e b x y p : Pt} (hx : InT a e b x) (hy : InT a e b y) (h : On x y p) : InT a e b p := by
  obtain ⟨s, t, p1, p2, p3, p4, p5⟩ := on_comb h
  have key : ∀ m n : Pt, 0 ≤ side m n x → 0 ≤ side m n y → 0 ≤ side m n p := fun m n h1 h2 => by
    have e : (s + t) * side m n p = s * side m n x + t * side m n y := by unfold side; grind
    have q1 := pp0 p1 h1
    have q2 := pp0 p2 h2
    rcases Int.lt_or_le (side m n p) 0 with g | g
    · have := pn p3 g; omega
    · exact g
  exact ⟨key _ _ hx.1 hy.1, key _ _ hx.2.1 hy.2.1, key _ _ hx.2.2 hy.2.2⟩
theorem inT_mid {a e b : Pt} (hD : 0 < side a e b) : InT a e b e := ⟨by rw [side_self3]; omega, by rw [side_self2]; omega, by rw [side_cyc]; omega⟩
/-- From the tip to a point inside: it does not come through the other two corners. -/
theorem on_tip {a e y c : Pt} (y1 : side a e y ≠ 0) (h : On e y c) (z : side a e c = 0) : c = e := by
  obtain ⟨s, t, p1, p2, p3, p4, p5⟩ := on_comb h
  have e1 : (s + t) * side a e c = t * side a e y := by unfold side; grind
  rw [z, Int.mul_zero] at e1
  have ht : t = 0 := (Int.mul_eq_zero.1 e1.symm).resolve_right y1
  subst ht
  have k1 : s * (c.1 - e.1) = 0 := by grind
  have k2 : s * (c.2 - e.2) = 0 := by grind
  have := (Int.mul_eq_zero.1 k1).resolve_left (by omega)
  have := (Int.mul_eq_zero.1 k2).resolve_left (by omega)
  exact Prod.ext (by omega) (by omega)
structure Ear (P : List Pt) (a e b : Pt) : Prop where
  l : (a, e) ∈ ed P
  r : (e, b) ∈ ed P
  turn : 0 < side a e b
  clear : ∀ x ∈ P, InT a e b x → x = a ∨ x = e ∨ x = b

theorem to_head {P : List Pt} (S : Pos P) {v : Pt} (hv : v ∈ P) : ∃ w t L, Pos (v :: w :: t :: L) ∧ (∀ e, e ∈ ed P ↔ e ∈ ed (v :: w :: t :: L)) ∧ (∀ x, x ∈ P ↔ x ∈ v :: w :: t :: L) ∧ P.length = (v :: w :: t :: L).length ∧ ∀ x, wind P x = wind (v :: w :: t :: L) x := by
  obtain ⟨A, B, rfl⟩ := List.append_of_mem hv
  have R := S.rot
  have hl := R.len
  have e1 : ∀ e, e ∈ ed (A ++ v :: B) ↔ e ∈ ed (v :: B ++ A) := ed_rot_mem _ _
  have e2 : ∀ x, x ∈ A ++ v :: B ↔ x ∈ v :: B ++ A := fun x => by simp only [List.mem_append]; exact Or.comm
  have e3 : (A ++ v :: B).length = (v :: B ++ A).length := by simp; omega
  have e4 : ∀ x, wind (A ++ v :: B) x = wind (v :: B ++ A) x := wind_rot _ _
  revert R hl e1 e2 e3 e4
  simp only [List.cons_append]
  generalize B ++ A = C
  intro R hl e1 e2 e3 e4
  match C, R, hl, e1, e2, e3, e4 with
  | [], _, hl, _, _, _, _ => simp at hl
  | [_], _, hl, _, _, _, _ => simp at hl
  | w :: t :: L, R, _, e1, e2, e3, e4 => exact ⟨w, t, L, R, e1, e2, e3, e4⟩
theorem ed_next {v w : Pt} {L : List Pt} (S : Simple (v :: w :: L)) {b : Pt} (h : (v, b) ∈ ed (v :: w :: L)) : b = w := by
  rcases mem_ed.1 h with h | h | h
  · exact (Prod.mk.inj h).2
  · exact absurd (pe_mem h).1 S.notin
  · have := (Prod.mk.inj h).1
    exact absurd (this ▸ lst_mem L w) S.notin
theorem ed_prev {v w : Pt} {L : List Pt} (S : Simple (v :: w :: L)) {a : Pt} (h : (a, v) ∈ ed (v :: w :: L)) : a = lst w L := by
  rcases mem_ed.1 h with h | h | h
  · have := (Prod.mk.inj h).2
    exact absurd (by simp [this]) S.notin
  · exact absurd (pe_mem h).2 S.notin
  · exact (Prod.mk.inj h).1
/-- From an ear's tip one sees every point of the ear: the polygon runs round it once. -/
theorem Ear.sight {P : List Pt} {a e b : Pt} (E : Ear P a e b) (S : Pos P) {y : Pt} (hy : InT a e b y) (hoff : ∀ c d, (c, d) ∈ ed P → ¬ On c d y) : wind P y = 1 := by
  obtain ⟨w, t, L, R, r1, r2, _, r4⟩ := to_head S (ed_mem E.l).2
  have hb : b = w := ed_next R.toSimple ((r1 _).1 E.r)
  have ha : a = lst w (t :: L) := ed_prev R.toSimple ((r1 _).1 E.l)
  subst hb
  have hD := E.turn
  have o1 : ¬ On a e y := hoff _ _ E.l
  have o2 : ¬ On e b y := hoff _ _ E.r
  have y1 : 0 < side a e y := by
    have h0 := hy.1
    rcases sgn_cases (side a e y) with g | g | g
    · omega
    · exact absurd (inT_on1 hD hy g) o1
    · exact g
  have y2 : 0 < side e b y := by
    have h0 := hy.2.1
    rcases sgn_cases (side e b y) with g | g | g
    · omega
    · exact absurd (inT_on2 hD hy g) o2
    · exact g
  have t1 : ∀ c, On e y c → side a e c = 0 → c = e := fun c h z => on_tip (by omega) h z
  have t2 : ∀ c, On e y c → side e b c = 0 → c = e := fun c h z => on_tip (a := b) (by rw [side_swap]; omega) h (by rw [side_swap]; omega)
  have hae : a ≠ e := fun h => by rw [h, side_self1] at hD; omega
  have hbe : b ≠ e := fun h => by rw [h, side_self3] at hD; omega
  have vert : ∀ c ∈ b :: t :: L, c ≠ e ∧ (InT a e b c → c = a ∨ c = b) := fun c hc => by
    have h1 : c ≠ e := fun h => R.notin (h ▸ hc)
    exact ⟨h1, fun h => by
      rcases E.clear c ((r2 c).2 (List.mem_cons_of_mem _ hc)) h with h | h | h
      · exact .inl h
      · exact absurd h h1
      · exact .inr h⟩
  have noc : ∀ c ∈ b :: t :: L, ¬ On e y c := fun c hc h => by
    obtain ⟨h1, h2⟩ := vert c hc
    rcases h2 (inT_conv (inT_mid hD) hy h) with g | g
    · exact h1 (t1 c h (by rw [g]; exact side_self2 _ _))
    · exact h1 (t2 c h (by rw [g]; exact side_self3 _ _))
  rw [r4]
  have sct := sector (v := e) (w := b) (L := t :: L) (y := y) (fun f hf => by
    obtain ⟨m1, m2⟩ := pe_mem (a := f.1) (b := f.2) hf
    have hfP : (f.1, f.2) ∈ ed P := (r1 _).2 (mem_ed.2 (.inr (.inl hf)))
    have ne : ¬ On f.1 f.2 e := fun h => by
      rcases S.toSimple.vertex_on hfP (ed_mem E.l).2 h with g | g
      · exact (vert _ m1).1 g.symm
      · exact (vert _ m2).1 g.symm
    have noc2 : ∀ c ∈ b :: t :: L, 0 < side b a c → ¬ InT a e b c := fun c hc h1 h2 => by
      rcases (vert c hc).2 h2 with g | g
      · rw [g, side_self3] at h1; omega
      · rw [g, side_self2] at h1; omega
    rintro (h | h | h | h | h)
    · exact ne h
    · exact hoff _ _ hfP h
    · exact noc _ m1 h
    · exact noc _ m2 h
    · rcases px hD y1 y2 hy.2.2 (.inl h) ne (fun g _ _ => noc2 _ m1 g) (fun g _ _ => noc2 _ m2 g) with g | g
      · exact S.toSimple.no_crs hfP E.l g
      · exact S.toSimple.no_crs hfP E.r g) (by rw [← ha]; exact fun h => o1 (on_comm.1 h)) (by rw [← ha]; exact fun h => hae (t1 a h (side_self2 _ _))) o2 (fun h => hbe (t2 b h (side_self3 _ _)))
  rw [← ha] at sct
  have l := R.lam
  simp only [lamP] at l
  rw [sct, l, ls1 (u := a) y2 (.inr (by rw [side_swap]; omega))]
  rfl
theorem chain_const {G : List Pt} : ∀ {l : List Pt} {q : Pt}, (∀ e ∈ pe (q :: l), ∀ f ∈ ed G, ¬ Meet f.1 f.2 e.1 e.2) → ∀ x ∈ q :: l, wind G x = wind G q := by
  intro l
  induction l with
  | nil => intro q _ x hx; simp at hx; rw [hx]
  | cons r l ih =>
    intro q h x hx
    have h1 : wind G r = wind G q := wind_move fun f hf => h (q, r) (by simp [pe]) f hf
    rcases List.mem_cons.1 hx with rfl | hx
    · rfl
    · rw [ih (fun e he f hf => h e (by simp only [pe, List.mem_cons]; exact .inr he) f hf) x hx, h1]
end Go.Hu
