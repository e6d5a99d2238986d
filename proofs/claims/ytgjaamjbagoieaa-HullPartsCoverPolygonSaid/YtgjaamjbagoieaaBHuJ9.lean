import Derived.Test.YtgjaamjbagoieaaBHuJ8
set_option linter.unusedVariables false
set_option linter.unusedSimpArgs false
set_option linter.unnecessarySimpa false
/-
  The two-ears theorem, by a diagonal at an extreme corner.
-/
namespace Go.Hu

theorem lst_cons_eq (b : Pt) (l : List Pt) (t : Pt) : lst t (b :: l) = lst b l := rfl
theorem lst_glue (z : Pt) (B : List Pt) : ∀ (A : List Pt) (t : Pt), lst t (A ++ z :: B) = lst z B := by
  intro A
  induction A with
  | nil => intro t; rfl
  | cons a A ih => intro t; exact ih a
/-- What a diagonal from v to z keeps to. -/
structure Diag (Q : List Pt) (v z : Pt) : Prop where
  v1 : ∀ c d, (c, d) ∈ ed Q → On z v c → c = v ∨ c = z
  v2 : ∀ c d, (c, d) ∈ ed Q → On z v d → d = v ∨ d = z
  nc : ∀ c d, (c, d) ∈ ed Q → ¬ Crs c d z v
theorem Diag.nx {Q : List Pt} {v z : Pt} (D : Diag Q v z) (S : Simple Q) (hv : v ∈ Q) (hz : z ∈ Q) {c d : Pt} (he : (c, d) ∈ ed Q) : (c ≠ z → d ≠ v → NX c d z v) ∧ (c ≠ v → d ≠ z → NX c d v z) := by
  have a1 := fun h => S.vertex_on he hz h
  have a2 := fun h => S.vertex_on he hv h
  have a3 := D.v1 _ _ he
  have a4 := D.v2 _ _ he
  have a5 := D.nc _ _ he
  constructor
  · intro h1 h2
    exact ⟨fun h => (a1 h).resolve_left fun e => h1 e.symm, fun h => (a2 h).resolve_right fun e => h2 e.symm, fun h => (a3 h).resolve_right h1, fun h => (a4 h).resolve_left h2, a5⟩
  · intro h1 h2
    exact ⟨fun h => (a2 h).resolve_left fun e => h1 e.symm, fun h => (a1 h).resolve_right fun e => h2 e.symm, fun h => (a3 (on_comm.1 h)).resolve_left h1, fun h => (a4 (on_comm.1 h)).resolve_right h2, fun h => a5 (crs_swap'.1 h)⟩

/-- The deepest corner in the triangle at v gives a diagonal. -/
theorem diag_exists {v w t : Pt} {L : List Pt} (S : Simple (v :: w :: t :: L)) (hD : 0 < side (lst t L) v w) (hx : ∃ x ∈ v :: w :: t :: L, InT (lst t L) v w x ∧ ¬ (x = lst t L ∨ x = v ∨ x = w)) :
    ∃ z ∈ v :: w :: t :: L, z ≠ lst t L ∧ z ≠ v ∧ z ≠ w ∧ 0 < side (lst t L) v z ∧ 0 < side v w z ∧ Diag (v :: w :: t :: L) v z := by
  generalize hQ : v :: w :: t :: L = Q at *
  generalize hu : lst t L = u at *
  have e1 : (u, v) ∈ ed Q := by rw [← hQ, ← hu]; exact mem_ed.2 (.inr (.inr rfl))
  have e2 : (v, w) ∈ ed Q := by rw [← hQ]; exact mem_ed.2 (.inl rfl)
  haveI : ∀ x, Decidable (InT u v w x ∧ ¬ (x = u ∨ x = v ∨ x = w)) := fun _ => Classical.propDecidable _
  let F : List Pt := Q.filter fun x => decide (InT u v w x ∧ ¬ (x = u ∨ x = v ∨ x = w))
  have memF : ∀ x, x ∈ F ↔ x ∈ Q ∧ InT u v w x ∧ ¬ (x = u ∨ x = v ∨ x = w) := fun x => by simp only [F, List.mem_filter, decide_eq_true_eq]
  obtain ⟨z, z1, z2⟩ := max_exists (fun p => side w u p) F (fun e => by
    obtain ⟨x, h1, h2⟩ := hx
    have := (memF x).2 ⟨h1, h2⟩
    rw [e] at this
    simp at this)
  obtain ⟨zQ, zT, zn⟩ := (memF z).1 z1
  have off1 : ¬ On u v z := fun h => by rcases S.vertex_on e1 zQ h with g | g <;> simp [g] at zn
  have off2 : ¬ On v w z := fun h => by rcases S.vertex_on e2 zQ h with g | g <;> simp [g] at zn
  have s1 : 0 < side u v z := by
    have h0 := zT.1
    rcases sgn_cases (side u v z) with g | g | g
    · omega
    · exact absurd (inT_on1 hD zT g) off1
    · exact g
  have s2 : 0 < side v w z := by
    have h0 := zT.2.1
    rcases sgn_cases (side v w z) with g | g | g
    · omega
    · exact absurd (inT_on2 hD zT g) off2
    · exact g
  have bs := bary_sum u v w z
  have c5 : side w u v = side u v w := side_cyc _ _ _
  have vin : ∀ c ∈ Q, On z v c → c = v ∨ c = z := fun c hc h => by
    have hT := inT_conv zT (inT_mid hD) h
    obtain ⟨s, t, p1, p2, p3, p4, p5⟩ := on_comb h
    have t1 : side u v c = 0 → c = v := fun g => on_tip (a := u) (e := v) (y := z) (by omega) (on_comm.1 h) g
    have t2 : side v w c = 0 → c = v := fun g => on_tip (a := w) (e := v) (y := z) (by rw [side_swap]; omega) (on_comm.1 h) (by rw [side_swap]; omega)
    by_cases hc' : c = u ∨ c = v ∨ c = w
    · rcases hc' with g | g | g
      · exact .inl (t1 (by rw [g]; exact side_self2 _ _))
      · exact .inl g
      · exact .inl (t2 (by rw [g]; exact side_self3 _ _))
    · have m := z2 c ((memF c).2 ⟨hc, hT, hc'⟩)
      have e : s * (side w u c - side w u z) + t * (side w u c - side u v w) = 0 := by
        rw [← c5]; unfold side; grind
      have q1 := pn0 p1 (show side w u c - side w u z ≤ 0 by omega)
      have ht : t = 0 := by
        rcases Int.lt_or_le 0 t with g | g
        · have := pn g (show side w u c - side u v w < 0 by omega)
          omega
        · omega
      subst ht
      have k1 : s * (c.1 - z.1) = 0 := by grind
      have k2 : s * (c.2 - z.2) = 0 := by grind
      have := (Int.mul_eq_zero.1 k1).resolve_left (by omega)
      have := (Int.mul_eq_zero.1 k2).resolve_left (by omega)
      exact .inr (Prod.ext (by omega) (by omega))
  refine ⟨z, zQ, fun e => zn (.inl e), fun e => zn (.inr (.inl e)), fun e => zn (.inr (.inr e)), s1, s2, ⟨fun c d he h => vin c (ed_mem he).1 h, fun c d he h => vin d (ed_mem he).2 h, fun c d he h => ?_⟩⟩
  have h' : Crs c d v z := crs_swap'.1 h
  have deep : ∀ p ∈ Q, side v z p ≠ 0 → 0 < side w u p → side w u z < side w u p → ¬ InT u v w p := fun p hp h0 h1 h2 hT => by
    by_cases hc' : p = u ∨ p = v ∨ p = w
    · rcases hc' with g | g | g
      · rw [g, side_self3] at h1; omega
      · rw [g, side_self2] at h0; omega
      · rw [g, side_self2] at h1; omega
    · have := z2 p ((memF p).2 ⟨hp, hT, hc'⟩)
      omega
  have n1 : side v z c ≠ 0 := by have := h'.2; omega
  have n2 : side v z d ≠ 0 := by have := h'.2; omega
  rcases px hD s1 s2 zT.2.2 (.inl h') (fun g => by have := h'.1; have := g.1; omega) (fun g1 _ g2 => deep c (ed_mem he).1 n1 g1 (g2 h')) (fun g1 _ g2 => deep d (ed_mem he).2 n2 g1 (g2 h')) with g | g
  · exact S.no_crs he e1 g
  · exact S.no_crs he e2 g

theorem Ext.sub {P Q : List Pt} {v : Pt} {dx dy : Int} (E : Ext P v dx dy) (h : ∀ x ∈ Q, x ∈ P) : Ext Q v dx dy := fun p hp => E p (h p hp)
/-- A diagonal at an extreme corner cuts a polygon in two; neither part runs round the other's corners. -/
theorem split {v w : Pt} {A : List Pt} {z b : Pt} {B : List Pt} (S : Pos (v :: w :: (A ++ z :: b :: B))) {dx dy : Int} (E : Ext (v :: w :: (A ++ z :: b :: B)) v dx dy) (hD : 0 < side (lst b B) v w)
    (s1 : 0 < side (lst b B) v z) (s2 : 0 < side v w z) (D : Diag (v :: w :: (A ++ z :: b :: B)) v z) :
    (Pos (v :: w :: (A ++ [z])) ∧ ∀ x ∈ b :: B, wind (v :: w :: (A ++ [z])) x = 0) ∧ (Pos (v :: z :: b :: B) ∧ ∀ x ∈ w :: A, wind (v :: z :: b :: B) x = 0) := by
  generalize hQ : v :: w :: (A ++ z :: b :: B) = Q at *
  have hS := S.toSimple
  have eQ : ed Q = pe (v :: w :: (A ++ [z])) ++ pe (z :: b :: (B ++ [v])) := by
    rw [← hQ]
    have : v :: w :: (A ++ z :: b :: B) = v :: (w :: A) ++ z :: (b :: B) := by simp
    rw [this, ed_app]
    simp
  have hv : v ∈ Q := by rw [← hQ]; simp
  have hz : z ∈ Q := by rw [← hQ]; simp
  have nd : (v :: w :: (A ++ z :: b :: B)).Nodup := by rw [hQ]; exact hS.nd
  have nd1 : (v :: w :: A ++ (z :: b :: B)).Nodup := by simpa using nd
  have ndL := (List.nodup_append.1 nd1).1
  have ndR := (List.nodup_append.1 nd1).2.1
  have dis := (List.nodup_append.1 nd1).2.2
  have hvn : v ∉ w :: A := (List.nodup_cons.1 ndL).1
  have hzn : z ∉ b :: B := (List.nodup_cons.1 ndR).1
  have vz : v ≠ z := fun e => dis v (by simp) z (by simp) e
  have d1 : ∀ x ∈ v :: w :: A, x ∉ z :: b :: B := fun x h1 h2 => dis x h1 x h2 rfl
  have huB := lst_mem B b
  generalize hu : lst b B = u at *
  have euv : (u, v) ∈ ed Q := by rw [← hQ, ed_cons]; simp [lst_glue, lst, hu]
  have evw : (v, w) ∈ ed Q := by rw [← hQ, ed_cons]; simp
  -- the ends of the edges of each part
  have p1 : ∀ c d, (c, d) ∈ pe (v :: w :: (A ++ [z])) → (c ∈ v :: w :: A) ∧ (d ∈ w :: (A ++ [z])) := fun c d h => ⟨pe_fst (z := z) (l := v :: w :: A) (by simpa using h), pe_snd h⟩
  have p2 : ∀ c d, (c, d) ∈ pe (z :: b :: (B ++ [v])) → (c ∈ z :: b :: B) ∧ (d ∈ b :: (B ++ [v])) := fun c d h => ⟨pe_fst (z := v) (l := z :: b :: B) (by simpa using h), pe_snd h⟩
  have in1 : ∀ c d, (c, d) ∈ pe (v :: w :: (A ++ [z])) → (c, d) ∈ ed Q := fun c d h => by rw [eQ]; exact List.mem_append_left _ h
  have in2 : ∀ c d, (c, d) ∈ pe (z :: b :: (B ++ [v])) → (c, d) ∈ ed Q := fun c d h => by rw [eQ]; exact List.mem_append_right _ h
  have x1 : ∀ c d, (c, d) ∈ pe (v :: w :: (A ++ [z])) → c ≠ z ∧ d ≠ v := fun c d h => by
    obtain ⟨h1, h2⟩ := p1 c d h
    refine ⟨fun e => d1 c h1 (by simp [e]), fun e => ?_⟩
    subst e
    simp only [List.mem_cons, List.mem_append, List.not_mem_nil, or_false] at h2 hvn
    rcases h2 with h2 | h2 | h2
    · exact hvn (.inl h2)
    · exact hvn (.inr h2)
    · exact vz h2
  have x2 : ∀ c d, (c, d) ∈ pe (z :: b :: (B ++ [v])) → c ≠ v ∧ d ≠ z := fun c d h => by
    obtain ⟨h1, h2⟩ := p2 c d h
    refine ⟨fun e => d1 v (by simp) (e ▸ h1), fun e => ?_⟩
    subst e
    simp only [List.mem_cons, List.mem_append, List.not_mem_nil, or_false] at h2 hzn
    rcases h2 with h2 | h2 | h2
    · exact hzn (.inl h2)
    · exact hzn (.inr h2)
    · exact vz h2.symm
  have eG1 : ed (v :: w :: (A ++ [z])) = pe (v :: w :: (A ++ [z])) ++ [(z, v)] := by
    show pe (v :: (w :: (A ++ [z]) ++ [v])) = _
    rw [pe_snoc]
    simp [lst_glue, lst]
  have eG2 : ∀ e, e ∈ ed (v :: z :: b :: B) ↔ e = (v, z) ∨ e ∈ pe (z :: b :: (B ++ [v])) := fun e => by
    have : pe (z :: b :: (B ++ [v])) = pe (z :: b :: B) ++ [(u, v)] := by rw [← hu]; exact pe_snoc v (b :: B) z
    rw [mem_ed, this, List.mem_append, List.mem_singleton]
    simp only [lst, hu]
  have nxO : ∀ c d a b, (c, d) ∈ ed Q → (a, b) ∈ ed Q → (c, d) ≠ (a, b) → NX c d a b := hS.nx
  have S1 : Simple (v :: w :: (A ++ [z])) := by
    refine ⟨?_, by simp, fun c d a b' h1 h2 h3 => ?_⟩
    · have : (v :: w :: A ++ [z]).Nodup := by
        refine List.nodup_append.2 ⟨ndL, by simp, fun x hx y hy => ?_⟩
        simp at hy
        subst hy
        intro e
        subst e
        exact d1 x hx (by simp)
      simpa using this
    · rw [eG1, List.mem_append, List.mem_singleton] at h1 h2
      rcases h1 with h1 | h1 <;> rcases h2 with h2 | h2
      · exact nxO _ _ _ _ (in1 _ _ h1) (in1 _ _ h2) h3
      · obtain ⟨rfl, rfl⟩ := Prod.mk.inj h2
        exact (D.nx hS hv hz (in1 _ _ h1)).1 (x1 _ _ h1).1 (x1 _ _ h1).2
      · obtain ⟨rfl, rfl⟩ := Prod.mk.inj h1
        exact nx_comm ((D.nx hS hv hz (in1 _ _ h2)).1 (x1 _ _ h2).1 (x1 _ _ h2).2)
      · exact absurd (h1.trans h2.symm) h3
  have S2 : Simple (v :: z :: b :: B) := by
    refine ⟨?_, by simp, fun c d a b' h1 h2 h3 => ?_⟩
    · exact List.nodup_cons.2 ⟨d1 v (by simp), ndR⟩
    · rw [eG2] at h1 h2
      rcases h1 with h1 | h1 <;> rcases h2 with h2 | h2
      · exact absurd (h1.trans h2.symm) h3
      · obtain ⟨rfl, rfl⟩ := Prod.mk.inj h1
        exact nx_comm ((D.nx hS hv hz (in2 _ _ h2)).2 (x2 _ _ h2).1 (x2 _ _ h2).2)
      · obtain ⟨rfl, rfl⟩ := Prod.mk.inj h2
        exact (D.nx hS hv hz (in2 _ _ h1)).2 (x2 _ _ h1).1 (x2 _ _ h1).2
      · exact nxO _ _ _ _ (in2 _ _ h1) (in2 _ _ h2) h3
  have sub1 : ∀ x ∈ v :: w :: (A ++ [z]), x ∈ Q := fun x hx => by
    rw [← hQ]
    simp only [List.mem_cons, List.mem_append, List.not_mem_nil, or_false] at hx ⊢
    rcases hx with hx | hx | hx | hx <;> simp [hx]
  have sub2 : ∀ x ∈ v :: z :: b :: B, x ∈ Q := fun x hx => by
    rw [← hQ]
    simp only [List.mem_cons, List.mem_append] at hx ⊢
    rcases hx with hx | hx | hx | hx <;> simp [hx]
  -- how the first part goes on behind w
  obtain ⟨t1, L1, hL1⟩ : ∃ t1 L1, A ++ [z] = t1 :: L1 := by
    cases A with
    | nil => exact ⟨z, [], rfl⟩
    | cons a A => exact ⟨a, A ++ [z], rfl⟩
  have hl1 : lst t1 L1 = z := by
    have := lst_glue z [] A w
    rw [hL1] at this
    exact this
  have P1 : Pos (v :: w :: (A ++ [z])) := ⟨S1, by
    have E1 := E.sub sub1
    rw [hL1] at S1 E1 ⊢
    refine (ext_turn S1 E1).2.2 ?_
    rw [hl1, side_cyc]
    exact s2⟩
  have P2 : Pos (v :: z :: b :: B) := ⟨S2, (ext_turn S2 (E.sub sub2)).2.2 (by rw [hu]; exact s1)⟩
  have cz : ∀ c, c ∈ Q → On z v c → c = v ∨ c = z := fun c hc h => by
    obtain ⟨q, hq⟩ := ed_out hc
    exact D.v1 _ _ hq h
  have huQ : u ∈ Q := (ed_mem euv).1
  have hwQ : w ∈ Q := (ed_mem evw).2
  have uv : u ≠ v := fun e => d1 v (by simp) (by rw [← e]; exact List.mem_cons_of_mem _ huB)
  have uz : u ≠ z := fun e => hzn (e ▸ huB)
  have wv : w ≠ v := fun e => hvn (by simp [e])
  have wz : w ≠ z := fun e => d1 w (by simp) (by simp [e])
  have uw : u ≠ w := fun e => d1 w (by simp) (by rw [← e]; exact List.mem_cons_of_mem _ huB)
  have oZU : ¬ On v z u := fun h => (cz u huQ (on_comm.1 h)).elim uv uz
  have oUZ : ¬ On v u z := fun h => (hS.vertex_on euv hz (on_comm.1 h)).elim (fun e => uz e.symm) (fun e => vz e.symm)
  have oWU : ¬ On v w u := fun h => (hS.vertex_on evw huQ h).elim uv uw
  have oUW : ¬ On v u w := fun h => (hS.vertex_on euv hwQ (on_comm.1 h)).elim (fun e => uw e.symm) wv
  have oZW : ¬ On v z w := fun h => (cz w hwQ (on_comm.1 h)).elim wv wz
  have oWZ : ¬ On v w z := fun h => (hS.vertex_on evw hz h).elim (fun e => vz e.symm) (fun e => wz e.symm)
  have nbB : ∀ x ∈ b :: B, x ∉ v :: w :: (A ++ [z]) := fun x hx h => by
    have hx' : x ∈ z :: b :: B := List.mem_cons_of_mem _ hx
    simp only [List.mem_cons, List.mem_append, List.not_mem_nil, or_false] at h
    rcases h with h | h | h | h
    · exact d1 x (by simp [h]) hx'
    · exact d1 x (by simp [h]) hx'
    · exact d1 x (by simp [h]) hx'
    · exact hzn (h ▸ hx)
  have nbA : ∀ x ∈ w :: A, x ∉ v :: z :: b :: B := fun x hx h => by
    rcases List.mem_cons.1 h with h | h
    · exact hvn (h ▸ hx)
    · exact d1 x (List.mem_cons_of_mem _ hx) h
  constructor
  · refine ⟨P1, ?_⟩
    have w0 : wind (v :: w :: (A ++ [z])) u = 0 := by
      rw [hL1]
      have sct := sector (v := v) (w := w) (L := t1 :: L1) (y := u) (fun f hf => by
        have hf' : (f.1, f.2) ∈ pe (v :: w :: (A ++ [z])) := by rw [hL1]; simp only [pe, List.mem_cons] at hf ⊢; exact .inr hf
        have m := pe_mem (a := f.1) (b := f.2) hf
        rw [← hL1] at m
        have n0 : f.1 ≠ v := fun e => by
          have := m.1
          rw [e] at this
          simp only [List.mem_cons, List.mem_append, List.not_mem_nil, or_false] at this hvn
          rcases this with g | g | g
          · exact hvn (.inl g)
          · exact hvn (.inr g)
          · exact vz g
        have n1 : f.2 ≠ u := fun e => nbB u huB (by rw [← e]; exact List.mem_cons_of_mem _ m.2)
        have n2 : f.1 ≠ u := fun e => nbB u huB (by rw [← e]; exact List.mem_cons_of_mem _ m.1)
        have := nx_meet (nxO _ _ _ _ (in1 _ _ hf') euv (fun e => n2 (Prod.mk.inj e).1)) n0 n1
        exact fun h => this (meet_swap'.1 h)) (by rw [lst_cons_eq, hl1]; exact oZU) (by rw [lst_cons_eq, hl1]; exact oUZ) oWU oUW
      have l := P1.lam
      rw [hL1] at l
      simp only [lamP] at l
      rw [lst_cons_eq, hl1] at sct
      rw [sct, l, rs2 oZW oWZ (by rw [← side_cyc]; exact s1) (.inl (by rw [side_flip]; omega))]
      rfl
    have ch := chain_const (G := v :: w :: (A ++ [z])) (l := B) (q := b) (fun e he f hf => by
      have heQ : (e.1, e.2) ∈ pe (z :: b :: (B ++ [v])) := by
        rw [show pe (z :: b :: (B ++ [v])) = pe (z :: b :: B) ++ [(u, v)] by rw [← hu]; exact pe_snoc v (b :: B) z]
        refine List.mem_append_left _ ?_
        simp only [pe, List.mem_cons]
        exact .inr he
      have m := pe_mem (a := e.1) (b := e.2) he
      have fm := ed_mem (a := f.1) (b := f.2) hf
      have n1 : f.1 ≠ e.2 := fun h => nbB _ m.2 (h ▸ fm.1)
      have n2 : f.2 ≠ e.1 := fun h => nbB _ m.1 (h ▸ fm.2)
      have n3 : f.1 ≠ e.1 := fun h => nbB _ m.1 (h ▸ fm.1)
      rw [eG1, List.mem_append, List.mem_singleton] at hf
      rcases hf with hf | hf
      · exact nx_meet (nxO _ _ _ _ (in1 f.1 f.2 hf) (in2 _ _ heQ) (fun h => n3 (Prod.mk.inj h).1)) n1 n2
      · subst hf
        have k := (D.nx hS hv hz (in2 _ _ heQ)).1 (fun h => n3 h.symm) (fun h => nbB _ m.2 (by rw [h]; simp))
        exact nx_meet (nx_comm k) n1 n2)
    intro x hx
    rw [ch x hx, ← ch u huB, w0]
  · refine ⟨P2, ?_⟩
    have w0 : wind (v :: z :: b :: B) w = 0 := by
      have sct := sector (v := v) (w := z) (L := b :: B) (y := w) (fun f hf => by
        have hf' : (f.1, f.2) ∈ pe (z :: b :: (B ++ [v])) := by
          rw [show pe (z :: b :: (B ++ [v])) = pe (z :: b :: B) ++ [(u, v)] by rw [← hu]; exact pe_snoc v (b :: B) z]
          exact List.mem_append_left _ hf
        have m := pe_mem (a := f.1) (b := f.2) hf
        have n0 : f.1 ≠ w := fun e => nbA w (by simp) (by rw [← e]; exact List.mem_cons_of_mem _ m.1)
        have n1 : f.2 ≠ v := fun e => d1 v (by simp) (e ▸ m.2)
        have n2 : f.1 ≠ v := fun e => d1 v (by simp) (e ▸ m.1)
        exact nx_meet (nxO _ _ _ _ (in2 _ _ hf') evw (fun e => n2 (Prod.mk.inj e).1)) n0 n1) (by rw [lst_cons_eq, hu]; exact oUW) (by rw [lst_cons_eq, hu]; exact oWU) oZW oWZ
      have l := P2.lam
      simp only [lamP] at l
      rw [lst_cons_eq, hu] at sct
      rw [sct, l, rs1 oUZ oZU s2 (.inl (by have := side_swap u v z; have := side_cyc2 u v z; have := side_flip v u z; have := side_cyc v z u; omega))]
      rfl
    have ch := chain_const (G := v :: z :: b :: B) (l := A) (q := w) (fun e he f hf => by
      have heQ : (e.1, e.2) ∈ pe (v :: w :: (A ++ [z])) := by
        rw [show pe (v :: w :: (A ++ [z])) = (v, w) :: (pe (w :: A) ++ [(lst w A, z)]) by simp only [pe]; rw [pe_snoc]]
        exact List.mem_cons_of_mem _ (List.mem_append_left _ he)
      have m := pe_mem (a := e.1) (b := e.2) he
      have fm := ed_mem (a := f.1) (b := f.2) hf
      have n1 : f.1 ≠ e.2 := fun h => nbA _ m.2 (h ▸ fm.1)
      have n2 : f.2 ≠ e.1 := fun h => nbA _ m.1 (h ▸ fm.2)
      have n3 : f.1 ≠ e.1 := fun h => nbA _ m.1 (h ▸ fm.1)
      rw [eG2] at hf
      rcases hf with hf | hf
      · subst hf
        have k := (D.nx hS hv hz (in1 _ _ heQ)).2 (fun h => n3 h.symm) (fun h => nbA _ m.2 (by rw [h]; simp))
        exact nx_meet (nx_comm k) n1 n2
      · exact nx_meet (nxO _ _ _ _ (in2 f.1 f.2 hf) (in1 _ _ heQ) (fun h => n3 (Prod.mk.inj h).1)) n1 n2)
    intro x hx
    rw [ch x hx, w0]
end Go.Hu
