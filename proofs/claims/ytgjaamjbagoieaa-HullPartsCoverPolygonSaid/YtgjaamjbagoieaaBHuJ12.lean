import Derived.Test.YtgjaamjbagoieaaBHuJ11
set_option linter.unusedVariables false
set_option linter.unusedSimpArgs false
set_option linter.unnecessarySimpa false
/-
  The parts of a simple polygon: area, corners, and where a point lies.
-/
namespace Go.Hu

/-! ### Area -/
def crs0 (e : Pt × Pt) : Int := e.1.1 * e.2.2 - e.1.2 * e.2.1
def carea (P : List Pt) : Int := sm crs0 (ed P)
def fan (o : Pt) (l : List Pt) : Int := sm (fun e => side o e.1 e.2) (pe l)
theorem fan_eq (o : Pt) : ∀ (l : List Pt) (t : Pt), fan o (t :: l) = sm crs0 (pe (t :: l)) + crs0 (o, t) + crs0 (lst t l, o) := by
  intro l
  induction l with
  | nil => intro t; simp only [fan, pe, sm, lst, crs0]; grind
  | cons b l ih =>
    intro t
    have := ih b
    unfold fan at this ⊢
    simp only [pe, sm, lst]
    rw [this]
    unfold side crs0
    grind
theorem fan_area (o t : Pt) (l : List Pt) : fan o (t :: l) = carea (o :: t :: l) := by
  rw [fan_eq]
  unfold carea
  rw [ed_cons]
  simp only [sm, sm_app]
  omega
theorem carea_tri (a e b : Pt) : carea [a, e, b] = side a e b := by
  unfold carea
  simp only [ed, List.cons_append, List.nil_append, pe, sm, crs0]
  unfold side
  grind
theorem carea_cut (e b t : Pt) (L : List Pt) : carea (e :: b :: t :: L) = side (lst t L) e b + carea (b :: t :: L) := by
  unfold carea
  rw [ed_cons, HeadEar.ed_rest (e := e)]
  simp only [sm, sm_app, lst_cons_eq]
  have : crs0 (e, b) + crs0 (lst t L, e) = side (lst t L) e b + crs0 (lst t L, b) := by unfold crs0 side; grind
  omega
theorem wind_cut (e b t : Pt) (L : List Pt) (x : Pt) : wind (e :: b :: t :: L) x = wind [lst t L, e, b] x + wind (b :: t :: L) x := by
  unfold wind
  rw [ed_cons e b (t :: L), HeadEar.ed_rest (e := e) (b := b) (t := t) (L := L)]
  generalize pe (b :: t :: L) = M
  simp only [sm, sm_app, lst_cons_eq, ed, List.cons_append, List.nil_append, pe]
  have := cr_swap (lst t L) b x
  omega

/-! ### Triangles -/
theorem tri_simple {a e b : Pt} (hD : 0 < side a e b) : Simple [a, e, b] := by
  have s1 : side e b a = side a e b := by rw [← side_cyc]
  have s2 : side b a e = side a e b := side_cyc _ _ _
  have n1 : a ≠ e := fun h => by rw [h, side_self1] at hD; omega
  have n2 : e ≠ b := fun h => by rw [h, side_self3] at hD; omega
  have n3 : b ≠ a := fun h => by rw [h, side_self2] at hD; omega
  have key : ∀ {a e b : Pt}, 0 < side a e b → NX a e e b := fun {a e b} h => by
    have k : side e b a = side a e b := by rw [← side_cyc]
    refine ⟨fun _ => rfl, fun g => ?_, fun g => ?_, fun _ => rfl, fun g => ?_⟩
    · have := g.1; omega
    · have := g.1; omega
    · have := g.1; rw [side_self3] at this; omega
  have k1 : NX a e e b := key hD
  have k2 : NX e b b a := key (by omega)
  have k3 : NX b a a e := key (by omega)
  refine ⟨by simp [n1, n2, n3, n1.symm, n2.symm, n3.symm, fun h : a = b => n3 h.symm], by simp, fun c d x y h1 h2 h3 => ?_⟩
  simp only [ed, List.cons_append, List.nil_append, pe, List.mem_cons, List.not_mem_nil, or_false, Prod.mk.injEq] at h1 h2
  rcases h1 with ⟨rfl, rfl⟩ | ⟨rfl, rfl⟩ | ⟨rfl, rfl⟩ <;> rcases h2 with ⟨rfl, rfl⟩ | ⟨rfl, rfl⟩ | ⟨rfl, rfl⟩ <;> first | exact absurd rfl h3 | exact k1 | exact k2 | exact k3 | exact nx_comm k1 | exact nx_comm k2 | exact nx_comm k3
theorem tri_pos {a e b : Pt} (hD : 0 < side a e b) : Pos [a, e, b] := ⟨tri_simple hD, by
  simp only [lamP]
  unfold lam
  simp only [pe, sm, lst]
  have := luu_ear (a := b) (e := a) (b := e) (by rw [side_cyc]; exact hD)
  have := cr_swap e b a
  omega⟩
def Bd' (P : List Pt) (x : Pt) : Prop := ∃ c d, (c, d) ∈ ed P ∧ On c d x
theorem tri_in {a e b x : Pt} (hD : 0 < side a e b) (h : InT a e b x) (hn : ¬ Bd' [a, e, b] x) : wind [a, e, b] x = 1 :=
  Ear.sight (a := a) (e := e) (b := b) ⟨by simp [ed, pe], by simp [ed, pe], hD, fun x hx _ => by simpa using hx⟩ (tri_pos hD) h fun c d h1 h2 => hn ⟨c, d, h1, h2⟩
theorem tri_bd {a e b x : Pt} (hD : 0 < side a e b) : Bd' [a, e, b] x ↔ InT a e b x ∧ (side a e x = 0 ∨ side e b x = 0 ∨ side b a x = 0) := by
  have ia : InT a e b a := ⟨by rw [side_self2]; omega, by rw [← side_cyc]; omega, by rw [side_self3]; omega⟩
  have ib : InT a e b b := ⟨by omega, by rw [side_self3]; omega, by rw [side_self2]; omega⟩
  have ie := inT_mid hD
  constructor
  · rintro ⟨c, d, h1, h2⟩
    simp only [ed, List.cons_append, List.nil_append, pe, List.mem_cons, List.not_mem_nil, or_false, Prod.mk.injEq] at h1
    rcases h1 with ⟨rfl, rfl⟩ | ⟨rfl, rfl⟩ | ⟨rfl, rfl⟩
    · exact ⟨inT_conv ia ie h2, .inl h2.1⟩
    · exact ⟨inT_conv ie ib h2, .inr (.inl h2.1)⟩
    · exact ⟨inT_conv ib ia h2, .inr (.inr h2.1)⟩
  · rintro ⟨h, g | g | g⟩
    · exact ⟨a, e, by simp [ed, pe], inT_on1 hD h g⟩
    · exact ⟨e, b, by simp [ed, pe], inT_on2 hD h g⟩
    · exact ⟨b, a, by simp [ed, pe], inT_on3 hD h g⟩
theorem tri_out {a e b x : Pt} (hD : 0 < side a e b) (h : ¬ InT a e b x) : wind [a, e, b] x = 0 := by
  have key : ∀ m n : Pt, side m n x < 0 → 0 ≤ side m n a → 0 ≤ side m n e → 0 ≤ side m n b → wind [a, e, b] x = 0 := fun m n h0 h1 h2 h3 => by
    refine wind_far (-(n.2 - m.2)) (n.1 - m.1) fun p hp => ?_
    have e1 : -(n.2 - m.2) * (p.1 - x.1) + (n.1 - m.1) * (p.2 - x.2) = side m n p - side m n x := by unfold side; grind
    rw [e1]
    simp only [List.mem_cons, List.not_mem_nil, or_false] at hp
    rcases hp with rfl | rfl | rfl <;> omega
  have s1 : side e b a = side a e b := by rw [← side_cyc]
  have s2 : side b a e = side a e b := side_cyc _ _ _
  by_cases c1 : side a e x < 0
  · exact key a e c1 (by rw [side_self2]; omega) (by rw [side_self3]; omega) (by omega)
  · by_cases c2 : side e b x < 0
    · exact key e b c2 (by omega) (by rw [side_self2]; omega) (by rw [side_self3]; omega)
    · by_cases c3 : side b a x < 0
      · exact key b a c3 (by rw [side_self3]; omega) (by omega) (by rw [side_self2]; omega)
      · exact absurd ⟨by omega, by omega, by omega⟩ h
theorem pos_tri {x y z : Pt} (S : Pos [x, y, z]) : 0 < side x y z := by
  obtain ⟨v, v1, v2, v3, dx, dy, E⟩ := ext_any S (s := x) (t := y) (by simp [ed, pe])
  have hv : v = z := by simp only [List.mem_cons, List.not_mem_nil, or_false] at v1; rcases v1 with h | h | h <;> first | exact absurd h v2 | exact absurd h v3 | exact h
  subst hv
  have R : Pos [v, x, y] := Pos.rot (A := [x, y]) (B := [v]) S
  have E' : Ext [v, x, y] v dx dy := E.sub fun p hp => by simp only [List.mem_cons, List.not_mem_nil, or_false] at hp ⊢; rcases hp with h | h | h <;> simp [h]
  have := (ext_turn R.toSimple E').2.1 R.lam
  simp only [lst] at this
  rw [side_cyc2]
  rw [side_cyc2] at this
  rw [side_cyc2]
  rw [side_cyc2] at this
  rw [side_cyc2] at this ⊢
  first | exact this | (rw [side_cyc]; exact this) | (rw [side_cyc, side_cyc]; exact this)

/-! ### The same edges -/
structure SameP (P Q : List Pt) : Prop where
  ed : ∀ e, e ∈ ed P ↔ e ∈ Hu.ed Q
  sm : ∀ g, sm g (Hu.ed P) = Hu.sm g (Hu.ed Q)
  mem : ∀ x, x ∈ P ↔ x ∈ Q
  len : P.length = Q.length
theorem sameP_rot (A B : List Pt) : SameP (A ++ B) (B ++ A) := ⟨ed_rot_mem A B, fun g => ed_rot_sm g A B, fun x => by simp only [List.mem_append]; exact Or.comm, by simp; omega⟩
theorem SameP.wind {P Q : List Pt} (h : SameP P Q) (x : Pt) : wind P x = Hu.wind Q x := h.sm _
theorem SameP.area {P Q : List Pt} (h : SameP P Q) : carea P = carea Q := h.sm _
theorem SameP.bd {P Q : List Pt} (h : SameP P Q) (x : Pt) : Bd' P x ↔ Bd' Q x :=
  ⟨fun ⟨c, d, h1, h2⟩ => ⟨c, d, (h.ed _).1 h1, h2⟩, fun ⟨c, d, h1, h2⟩ => ⟨c, d, (h.ed _).2 h1, h2⟩⟩
/-- How a polygon is cut into triangles. -/
inductive Cut : List Pt → List (List Pt) → Prop
  | tri {x y z : Pt} : Pos [x, y, z] → Cut [x, y, z] [[x, y, z]]
  | ear {l r : List Pt} {e b t : Pt} {L : List Pt} {ps : List (List Pt)} : HeadEar e b t L → SameP l (e :: b :: t :: L) → SameP r (b :: t :: L) → Cut r ps → Cut l ([lst t L, e, b] :: ps)
theorem Cut.area {l : List Pt} {ps : List (List Pt)} (h : Cut l ps) : (ps.map carea).sum = carea l := by
  induction h with
  | tri _ => simp
  | ear H h1 h2 _ ih => rw [List.map_cons, List.sum_cons, ih, h1.area, h2.area, carea_tri, carea_cut]
theorem Cut.area_pos {l : List Pt} {ps : List (List Pt)} (h : Cut l ps) : 0 < carea l := by
  induction h with
  | tri S => rw [carea_tri]; exact pos_tri S
  | ear H h1 h2 _ ih =>
    rw [h1.area, carea_cut]
    rw [h2.area] at ih
    have := H.E.turn
    omega
theorem Cut.len {l : List Pt} {ps : List (List Pt)} (h : Cut l ps) : ps.length + 2 = l.length := by
  induction h with
  | tri _ => rfl
  | ear H h1 h2 _ ih =>
    rw [h1.len]
    rw [h2.len] at ih
    simp only [List.length_cons] at *
    omega
theorem Cut.part {l : List Pt} {ps : List (List Pt)} (h : Cut l ps) : ∀ q ∈ ps, ∃ x y z, q = [x, y, z] ∧ 0 < side x y z ∧ x ∈ l ∧ y ∈ l ∧ z ∈ l := by
  induction h with
  | tri S =>
    rename_i x y z
    intro q hq
    simp only [List.mem_cons, List.not_mem_nil, or_false] at hq
    exact ⟨x, y, z, hq, pos_tri S, by simp, by simp, by simp⟩
  | ear H h1 h2 _ ih =>
    rename_i e b t L ps _
    intro q hq
    rcases List.mem_cons.1 hq with rfl | hq
    · refine ⟨_, _, _, rfl, H.E.turn, (h1.mem _).2 (ed_mem H.E.l).1, (h1.mem _).2 (by simp), (h1.mem _).2 (by simp)⟩
    · obtain ⟨x, y, z, g1, g2, g3, g4, g5⟩ := ih q hq
      have up : ∀ p, p ∈ _ → p ∈ _ := fun p hp => (h1.mem p).2 (List.mem_cons_of_mem _ ((h2.mem p).1 hp))
      exact ⟨x, y, z, g1, g2, up _ g3, up _ g4, up _ g5⟩
end Go.Hu
