import Derived.Test.YtgjaamjbagoieaaBHuJ10
set_option linter.unusedVariables false
set_option linter.unusedSimpArgs false
set_option linter.unnecessarySimpa false
/-
  What is left when an ear is cut: a simple polygon again, that does not run round the ear.
-/
namespace Go.Hu

theorem luu_ear {a e b : Pt} (h : 0 < side a e b) : luu e a b + cr a b e = 0 := by
  have f1 : side e a b = - side a e b := side_swap _ _ _
  have f2 : side a b e = - side a e b := side_flip _ _ _
  unfold luu cr
  rw [f1, f2]
  split <;> split <;> (try split) <;> (try split) <;> omega
theorem ear_side {a e b : Pt} : side a b e = - side a e b := side_flip _ _ _
/-- An ear at the head. -/
structure HeadEar (e b t : Pt) (L : List Pt) : Prop where
  S : Pos (e :: b :: t :: L)
  E : Ear (e :: b :: t :: L) (lst t L) e b
  n : L ≠ []
theorem HeadEar.ed_rest {e b t : Pt} {L : List Pt} : ed (b :: t :: L) = pe (b :: t :: L) ++ [(lst t L, b)] := by
  rw [ed_cons]; rfl
theorem HeadEar.facts {e b t : Pt} {L : List Pt} (H : HeadEar e b t L) : ∀ c d, (c, d) ∈ pe (b :: t :: L) → (c, d) ∈ ed (e :: b :: t :: L) ∧ c ≠ e ∧ d ≠ e ∧ c ≠ lst t L ∧ d ≠ b ∧ c ≠ d ∧ (0 < side b (lst t L) c → ¬ InT (lst t L) e b c) ∧ (0 < side b (lst t L) d → ¬ InT (lst t L) e b d) := by
  intro c d h
  have S := H.S.toSimple
  have hP : (c, d) ∈ ed (e :: b :: t :: L) := mem_ed.2 (.inr (.inl h))
  obtain ⟨m1, m2⟩ := pe_mem h
  have n1 : c ≠ e := fun k => S.notin (k ▸ m1)
  have n2 : d ≠ e := fun k => S.notin (k ▸ m2)
  have clr : ∀ p ∈ b :: t :: L, p ≠ e → 0 < side b (lst t L) p → ¬ InT (lst t L) e b p := fun p hp hn h1 h2 => by
    rcases H.E.clear p (List.mem_cons_of_mem _ hp) h2 with g | g | g
    · rw [g, side_self3] at h1; omega
    · exact hn g
    · rw [g, side_self2] at h1; omega
  obtain ⟨N, hN⟩ : ∃ N, t :: L = N ++ [lst t L] := by
    have : ∀ (L : List Pt) (t : Pt), ∃ N, t :: L = N ++ [lst t L] := by
      intro L
      induction L with
      | nil => intro t; exact ⟨[], rfl⟩
      | cons x L ih => intro t; obtain ⟨N, hN⟩ := ih x; exact ⟨t :: N, by simp only [lst, List.cons_append]; rw [← hN]⟩
    exact this L t
  have nd : (b :: t :: L).Nodup := (List.nodup_cons.1 S.nd).2
  refine ⟨hP, n1, n2, fun k => ?_, fun k => ?_, H.S.ed_ne hP, clr c m1 n1, clr d m2 n2⟩
  · rw [hN] at h nd
    have : c ∈ b :: N := pe_fst (z := lst t L) (by simpa using h)
    rw [k] at this
    have nd' : (b :: N ++ [lst t L]).Nodup := by simpa using nd
    exact (List.nodup_append.1 nd').2.2 _ this _ (by simp) rfl
  · have := pe_snd h
    exact (List.nodup_cons.1 nd).1 (k ▸ this)
theorem HeadEar.simple {e b t : Pt} {L : List Pt} (H : HeadEar e b t L) : Simple (b :: t :: L) := by
  have S := H.S.toSimple
  have hD := H.E.turn
  have el := H.E.l
  have er := H.E.r
  have haP : lst t L ∈ e :: b :: t :: L := (ed_mem el).1
  have heP : e ∈ e :: b :: t :: L := by simp
  have hbP : b ∈ e :: b :: t :: L := by simp
  have F := H.facts
  have clear := H.E.clear
  generalize hu : lst t L = a at *
  have new : ∀ c d, (c, d) ∈ pe (b :: t :: L) → NX c d a b := fun c d h => by
    obtain ⟨hP, n1, n2, n3, n4, _, k1, k2⟩ := F c d h
    obtain ⟨m1, m2⟩ := pe_mem h
    have ine : InT a e b a := ⟨by rw [side_self2]; omega, by rw [← side_cyc]; omega, by rw [side_self3]; omega⟩
    have inb : InT a e b b := ⟨by omega, by rw [side_self3]; omega, by rw [side_self2]; omega⟩
    refine ⟨fun g => (S.vertex_on hP haP g).resolve_left fun k => n3 k.symm, fun g => (S.vertex_on hP hbP g).resolve_right fun k => n4 k.symm, fun g => ?_, fun g => ?_, fun g => ?_⟩
    · rcases clear c (ed_mem hP).1 (inT_conv ine inb g) with k | k | k
      · exact absurd k n3
      · exact absurd k n1
      · exact k
    · rcases clear d (ed_mem hP).2 (inT_conv ine inb g) with k | k | k
      · exact k
      · exact absurd k n2
      · exact absurd k n4
    · rcases px2 hD g (fun k => (S.vertex_on hP heP k).elim (fun k => n1 k.symm) (fun k => n2 k.symm)) k1 k2 with k | k
      · exact S.no_crs hP el k
      · exact S.no_crs hP er k
  refine ⟨(List.nodup_cons.1 S.nd).2, ?_, fun c d a' b' h1 h2 h3 => ?_⟩
  · have := List.length_pos_iff.2 H.n
    simp only [List.length_cons]; omega
  · rw [HeadEar.ed_rest (e := e), hu, List.mem_append, List.mem_singleton] at h1 h2
    rcases h1 with h1 | h1 <;> rcases h2 with h2 | h2
    · exact S.nx _ _ _ _ (F _ _ h1).1 (F _ _ h2).1 h3
    · obtain ⟨rfl, rfl⟩ := Prod.mk.inj h2
      exact new _ _ h1
    · obtain ⟨rfl, rfl⟩ := Prod.mk.inj h1
      exact nx_comm (new _ _ h2)
    · exact absurd (h1.trans h2.symm) h3
theorem HeadEar.wind_tip {e b t : Pt} {L : List Pt} (H : HeadEar e b t L) : wind (b :: t :: L) e = 0 := by
  have l := H.S.lam
  simp only [lamP] at l
  unfold Hu.lam at l
  rw [lst_cons_eq] at l
  have := luu_ear H.E.turn
  unfold wind
  rw [HeadEar.ed_rest (e := e), sm_app]
  simp only [sm]
  omega
theorem HeadEar.pos {e b t : Pt} {L : List Pt} (H : HeadEar e b t L) : Pos (b :: t :: L) := by
  have S := H.S.toSimple
  have S' := H.simple
  have hD := H.E.turn
  have el := H.E.l
  have er := H.E.r
  have w0 := H.wind_tip
  have clear := H.E.clear
  have heP : e ∈ e :: b :: t :: L := by simp
  obtain ⟨N, hN⟩ : ∃ N, L = N ++ [lst t L] := by
    have : ∀ (L : List Pt) (t : Pt), L ≠ [] → ∃ N, L = N ++ [lst t L] := by
      intro L
      induction L with
      | nil => intro t h; exact absurd rfl h
      | cons x L ih =>
        intro t _
        by_cases c : L = []
        · subst c; exact ⟨[], rfl⟩
        · obtain ⟨N, hN⟩ := ih x c
          exact ⟨x :: N, by simp only [lst, List.cons_append]; rw [← hN]⟩
    exact this L t H.n
  have hab : lst t L ≠ b := fun k => S'.notin (k ▸ lst_mem L t)
  refine ⟨S', ?_⟩
  generalize hu : lst t L = a at *
  have eQ : b :: t :: L = (b :: t :: N) ++ [a] := by rw [hN]; rfl
  have R : Simple (a :: b :: t :: N) := by
    have := S'
    rw [eQ] at this
    exact this.rot
  have lr : lamP (b :: t :: L) = lamP (a :: b :: t :: N) := by
    have := S'
    rw [eQ] at this ⊢
    exact this.lam_rot
  have we : wind (b :: t :: L) e = wind (a :: b :: t :: N) e := by rw [eQ]; exact wind_rot _ _ _
  rw [lr]
  simp only [lamP]
  have pN : pe (b :: t :: L) = pe (b :: t :: N) ++ [(lst t N, a)] := by
    rw [hN]
    exact pe_snoc a (t :: N) b
  have hpa : (lst t N, a) ∈ pe (b :: t :: L) := by rw [pN]; simp
  have inP : ∀ c d, (c, d) ∈ pe (b :: t :: L) → (c, d) ∈ ed (e :: b :: t :: L) := fun c d h => mem_ed.2 (.inr (.inl h))
  have hpP := inP _ _ hpa
  have npe : lst t N ≠ e := fun k => S.notin (by rw [← k]; exact (pe_mem hpa).1)
  have nae : a ≠ e := fun k => S.notin (by rw [← k]; exact (pe_mem hpa).2)
  have npb : lst t N ≠ b := fun k => R.nd' (by rw [← k]; exact lst_mem N t)
  have npa : lst t N ≠ a := fun k => R.notin (by rw [← k]; exact List.mem_cons_of_mem _ (lst_mem N t))
  have nT : ¬ InT a e b (lst t N) := fun h => by
    rcases clear _ (ed_mem hpP).1 h with k | k | k
    · exact npa k
    · exact npe k
    · exact npb k
  have wedge : side a (lst t N) b < 0 ∨ side a e (lst t N) < 0 := by
    apply Classical.byContradiction
    intro hn
    exact no_wedge hD (by omega) (by omega) nT (S.no_crs hpP er) (fun k => (S.vertex_on hpP heP k).elim (fun k => npe k.symm) (fun k => nae k.symm)) (fun k => (S.vertex_on hpP (by simp) k).elim (fun k => npb k.symm) (fun k => hab k.symm))
  have sct := sector (v := a) (w := b) (L := t :: N) (y := e) (fun f hf => by
    have hf' : (f.1, f.2) ∈ pe (b :: t :: L) := by rw [pN]; exact List.mem_append_left _ hf
    have m := pe_mem (a := f.1) (b := f.2) hf
    have n1 : f.1 ≠ e := fun k => S.notin (by rw [← k]; exact (pe_mem hf').1)
    have n2 : f.2 ≠ a := fun k => R.notin (k ▸ m.2)
    have n3 : f.1 ≠ a := fun k => R.notin (k ▸ m.1)
    exact nx_meet (S.nx _ _ _ _ (inP _ _ hf') el (fun k => n3 (Prod.mk.inj k).1)) n1 n2)
    (by rw [lst_cons_eq]; exact fun k => (S.vertex_on hpP heP (on_comm.1 k)).elim (fun k => npe k.symm) (fun k => nae k.symm))
    (by rw [lst_cons_eq]; exact fun k => (S.vertex_on el (ed_mem hpP).1 k).elim npa npe)
    (fun k => by have := k.1; rw [ear_side] at this; omega) (fun k => by have := k.1; omega)
  rw [← we, w0, lst_cons_eq] at sct
  have c := R.corner
  rw [rs1 c.1 c.2 hD wedge] at sct
  omega
theorem crs_sub {c d e x a : Pt} (h : Crs c d e x) (o : On e a x) : Crs c d e a := by
  obtain ⟨s, t, p1, p2, p3, p4, p5⟩ := on_comb o
  have e1 : (s + t) * side c d x = s * side c d e + t * side c d a := by unfold side; grind
  have e2 : (s + t) * side e x c = t * side e a c := by unfold side; grind
  have e3 : (s + t) * side e x d = t * side e a d := by unfold side; grind
  obtain ⟨h1, h2⟩ := h
  have ht : 0 < t := by
    rcases Int.lt_or_le 0 t with g | g
    · exact g
    · have t0 : t = 0 := by omega
      rw [t0, Int.zero_mul] at e2
      have := (Int.mul_eq_zero.1 e2).resolve_left (by omega)
      omega
  have sgnE : ∀ y, (s + t) * side e x y = t * side e a y → (0 < side e x y → 0 < side e a y) ∧ (side e x y < 0 → side e a y < 0) := fun y hy =>
    ⟨fun g => by have := pp p3 g; exact posR ht (by omega), fun g => by have := pn p3 g; exact negR ht (by omega)⟩
  obtain ⟨c1, c2⟩ := sgnE c e2
  obtain ⟨d1, d2⟩ := sgnE d e3
  refine ⟨?_, h2.elim (fun h => .inl ⟨c1 h.1, d2 h.2⟩) (fun h => .inr ⟨c2 h.1, d1 h.2⟩)⟩
  rcases h1 with h | h
  · have q1 := pp0 p1 (Int.le_of_lt h.1)
    have q2 := pn p3 h.2
    exact .inl ⟨h.1, negR ht (by omega)⟩
  · have q1 := pn0 p1 (Int.le_of_lt h.1)
    have q2 := pp p3 h.2
    exact .inr ⟨h.1, posR ht (by omega)⟩
/-- What is left does not come near a point of the ear that is not on the cut. -/
theorem HeadEar.out {e b t : Pt} {L : List Pt} (H : HeadEar e b t L) {x : Pt} (hT : InT (lst t L) e b x) (hx : 0 < side b (lst t L) x) : (∀ c d, (c, d) ∈ ed (b :: t :: L) → ¬ On c d x) ∧ wind (b :: t :: L) x = 0 := by
  have S := H.S.toSimple
  have hD := H.E.turn
  have el := H.E.l
  have er := H.E.r
  have w0 := H.wind_tip
  have F := H.facts
  have clear := H.E.clear
  have heP : e ∈ e :: b :: t :: L := by simp
  generalize hu : lst t L = a at *
  have hae : a ≠ e := H.S.ed_ne el
  have heb : e ≠ b := H.S.ed_ne er
  have c5 : side b a e = side a e b := side_cyc _ _ _
  have ns : ∀ c d, (c, d) ∈ pe (b :: t :: L) → ¬ On c d e := fun c d h k => by
    obtain ⟨hP, n1, n2, _⟩ := F c d h
    exact (S.vertex_on hP heP k).elim (fun k => n1 k.symm) (fun k => n2 k.symm)
  have off : ∀ c d, (c, d) ∈ pe (b :: t :: L) → ¬ On c d x := fun c d h k => by
    obtain ⟨hP, n1, n2, n3, n4, n5, k1, k2⟩ := F c d h
    by_cases c1 : side a e x = 0
    · have o := inT_on1 hD hT c1
      rcases nx_pt (S.nx _ _ _ _ hP el (fun k => n2 (Prod.mk.inj k).2)) k o (fun g => n1 g.1) n5 hae with g | g
      · rw [g.2, side_self3] at hx; omega
      · exact n1 (g.1.symm.trans g.2)
    · by_cases c2 : side e b x = 0
      · have o := inT_on2 hD hT c2
        rcases nx_pt (S.nx _ _ _ _ hP er (fun k => n1 (Prod.mk.inj k).1)) k o (fun g => n2 g.2) n5 heb with g | g
        · exact n2 (g.1.symm.trans g.2)
        · rw [g.2, side_self2] at hx; omega
      · have y1 : 0 < side a e x := by have := hT.1; omega
        have y2 : 0 < side e b x := by have := hT.2.1; omega
        rcases px hD y1 y2 hT.2.2 (.inr ⟨k, hx⟩) (ns c d h) (fun g _ _ => k1 g) (fun g _ _ => k2 g) with g | g
        · exact S.no_crs hP el g
        · exact S.no_crs hP er g
  have offN : ¬ On a b x := fun k => by have := k.1; have := side_swap a b x; omega
  have seen : ∀ c, side b a c = 0 → ¬ On e x c := fun c h k => by
    obtain ⟨s, t', p1, p2, p3, p4, p5⟩ := on_comb k
    have e1 : (s + t') * side b a c = s * side a e b + t' * side b a x := by rw [← c5]; unfold side; grind
    rw [h, Int.mul_zero] at e1
    have q1 := pp0 p1 (Int.le_of_lt hD)
    have q2 := pp0 p2 (Int.le_of_lt hx)
    rcases Int.lt_or_le 0 s with g | g
    · have := pp g hD; omega
    · have := pp (show 0 < t' by omega) hx; omega
  refine ⟨fun c d h => ?_, ?_⟩
  · rw [HeadEar.ed_rest (e := e), hu, List.mem_append, List.mem_singleton] at h
    rcases h with h | h
    · exact off c d h
    · obtain ⟨rfl, rfl⟩ := Prod.mk.inj h
      exact offN
  · rw [← w0]
    refine wind_move fun f hf => ?_
    rw [HeadEar.ed_rest (e := e), hu, List.mem_append, List.mem_singleton] at hf
    rcases hf with h | h
    · obtain ⟨hP, n1, n2, n3, n4, n5, k1, k2⟩ := F f.1 f.2 h
      have vert : ∀ p, p ∈ e :: b :: t :: L → p ≠ e → ¬ On e x p := fun p hp hn k => by
        rcases clear p hp (inT_conv (inT_mid hD) hT k) with g | g | g
        · exact seen p (by rw [g]; exact side_self3 _ _) k
        · exact hn g
        · exact seen p (by rw [g]; exact side_self2 _ _) k
      rintro (k | k | k | k | k)
      · exact ns _ _ h k
      · exact off _ _ h k
      · exact vert _ (ed_mem hP).1 n1 k
      · exact vert _ (ed_mem hP).2 n2 k
      · by_cases c1 : side a e x = 0
        · exact S.no_crs hP el (crs_swap'.1 (crs_sub k (on_comm.1 (inT_on1 hD hT c1))))
        · by_cases c2 : side e b x = 0
          · exact S.no_crs hP er (crs_sub k (inT_on2 hD hT c2))
          · have y1 : 0 < side a e x := by have := hT.1; omega
            have y2 : 0 < side e b x := by have := hT.2.1; omega
            rcases px hD y1 y2 hT.2.2 (.inl k) (ns _ _ h) (fun g _ _ => k1 g) (fun g _ _ => k2 g) with g | g
            · exact S.no_crs hP el g
            · exact S.no_crs hP er g
    · subst h
      have s1 := side_swap a b e
      have s2 := side_swap a b x
      rintro (k | k | k | k | k)
      · have := k.1; simp only at this; omega
      · have := k.1; simp only at this; omega
      · exact seen a (side_self3 _ _) k
      · exact seen b (side_self2 _ _) k
      · have := k.1; simp only at this; omega
end Go.Hu
