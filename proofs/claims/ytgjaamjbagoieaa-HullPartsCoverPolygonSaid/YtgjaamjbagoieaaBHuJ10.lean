import Derived.Test.YtgjaamjbagoieaaBHuJ9
set_option linter.unusedVariables false
set_option linter.unusedSimpArgs false
set_option linter.unnecessarySimpa false
/-
  The two-ears theorem; what is left when an ear is cut.
-/
namespace Go.Hu

theorem sub_ear {Q G : List Pt} (SG : Pos G) {x1 x2 : Pt} (hG : ∀ x ∈ G, x ∈ Q) (hE : ∀ f ∈ ed G, f ∈ ed Q ∨ f = (x1, x2)) (hout : ∀ x ∈ Q, x ∉ G → wind G x = 0 ∧ ∀ c d, (c, d) ∈ ed G → ¬ On c d x)
    {a e b : Pt} (E : Ear G a e b) (h1 : e ≠ x1) (h2 : e ≠ x2) : Ear Q a e b := by
  refine ⟨(hE _ E.l).resolve_right fun h => h2 (Prod.mk.inj h).2, (hE _ E.r).resolve_right fun h => h1 (Prod.mk.inj h).1, E.turn, fun x hx hT => ?_⟩
  by_cases c : x ∈ G
  · exact E.clear x c hT
  · exfalso
    obtain ⟨h3, h4⟩ := hout x hx c
    have := E.sight SG hT h4
    omega
theorem Pos.ed_ne {P : List Pt} (S : Pos P) {s t : Pt} (h : (s, t) ∈ ed P) : s ≠ t := by
  obtain ⟨w, t', L, R, r1, _⟩ := to_head S (ed_mem h).1
  have := ed_next R.toSimple ((r1 _).1 h)
  subst this
  exact fun e => R.notin (by simp [e])
theorem col3 {s t p q r : Pt} (hn : s ≠ t) (hp : side s t p = 0) (hq : side s t q = 0) (hr : side s t r = 0) : side p q r = 0 := by
  have f1 : (t.1 - s.1) * side p q r = 0 := by unfold side at *; grind
  have f2 : (t.2 - s.2) * side p q r = 0 := by unfold side at *; grind
  rcases Int.mul_eq_zero.1 f1 with g | g
  · rcases Int.mul_eq_zero.1 f2 with g' | g'
    · exact absurd (Prod.ext (by omega) (by omega)) hn
    · exact g'
  · exact g
theorem ext_any {P : List Pt} (S : Pos P) {s t : Pt} (h : (s, t) ∈ ed P) : ∃ v ∈ P, v ≠ s ∧ v ≠ t ∧ ∃ dx dy, Ext P v dx dy := by
  have hn := S.ed_ne h
  obtain ⟨hs, ht⟩ := ed_mem h
  by_cases c1 : ∃ p ∈ P, 0 < side s t p
  · obtain ⟨p, h1, h2⟩ := c1
    exact ext_exists hs ht hn h1 h2
  · by_cases c2 : ∃ p ∈ P, 0 < side t s p
    · obtain ⟨p, h1, h2⟩ := c2
      obtain ⟨v, v1, v2, v3, v4⟩ := ext_exists ht hs (fun e => hn e.symm) h1 h2
      exact ⟨v, v1, v3, v2, v4⟩
    · exfalso
      have all : ∀ p ∈ P, side s t p = 0 := fun p hp => by
        have k1 : ¬ 0 < side s t p := fun k => c1 ⟨p, hp, k⟩
        have k2 : ¬ 0 < side t s p := fun k => c2 ⟨p, hp, k⟩
        rw [side_swap] at k2
        omega
      obtain ⟨v, v1, dx, dy, E⟩ := ext_line hs hn all
      obtain ⟨w, t', L, R, _, r2, _⟩ := to_head S v1
      have E' : Ext (v :: w :: t' :: L) v dx dy := E.sub fun x hx => (r2 x).2 hx
      refine (ext_turn R.toSimple E').1 (col3 hn (all _ ((r2 _).2 ?_)) (all _ v1) (all _ ((r2 _).2 (by simp))))
      have := lst_mem L t'
      simp only [List.mem_cons] at this ⊢
      exact .inr (.inr this)
theorem ear_exists : ∀ (n : Nat) (P : List Pt), P.length = n → 4 ≤ n → Pos P → ∀ s t, (s, t) ∈ ed P → ∃ a e b, Ear P a e b ∧ e ≠ s ∧ e ≠ t := by
  intro n
  induction n using Nat.strongRecOn with
  | _ n ih =>
  intro P hn h4 S s t hst
  obtain ⟨v, v1, vs, vt, dx, dy, E0⟩ := ext_any S hst
  obtain ⟨w, t', L, R, r1, r2, r3, _⟩ := to_head S v1
  have E : Ext (v :: w :: t' :: L) v dx dy := E0.sub fun x hx => (r2 x).2 hx
  have hD := (ext_turn R.toSimple E).2.1 R.lam
  suffices hh : ∃ a e b, Ear (v :: w :: t' :: L) a e b ∧ e ≠ s ∧ e ≠ t by
    obtain ⟨a, e, b, h1, h2, h3⟩ := hh
    exact ⟨a, e, b, ⟨(r1 _).2 h1.l, (r1 _).2 h1.r, h1.turn, fun x hx => h1.clear x ((r2 x).1 hx)⟩, h2, h3⟩
  have hst' := (r1 _).1 hst
  have hlen : (v :: w :: t' :: L).length = n := by rw [← r3, hn]
  clear hst r1 r2 r3 E0 S
  by_cases hx : ∃ x ∈ v :: w :: t' :: L, InT (lst t' L) v w x ∧ ¬ (x = lst t' L ∨ x = v ∨ x = w)
  · obtain ⟨z, z1, z2, z3, z4, s1, s2, D⟩ := diag_exists R.toSimple hD hx
    have zin : z ∈ t' :: L := by
      simp only [List.mem_cons] at z1 ⊢
      rcases z1 with h | h | h
      · exact absurd h z3
      · exact absurd h z4
      · exact h
    obtain ⟨A, B0, hAB⟩ := List.append_of_mem zin
    have hu : lst t' L = lst z B0 := by
      have := lst_glue z B0 A w
      rw [← hAB] at this
      exact this
    cases B0 with
    | nil => exact absurd hu.symm z2
    | cons b B =>
    rw [hAB] at R E D hst' hlen ⊢
    rw [hu] at hD s1
    simp only [lst] at hD s1
    obtain ⟨⟨P1, O1⟩, ⟨P2, O2⟩⟩ := split R E hD s1 s2 D
    have hS := R.toSimple
    have nd1 : (v :: w :: A ++ (z :: b :: B)).Nodup := by simpa using hS.nd
    have dis := (List.nodup_append.1 nd1).2.2
    have eQ : ed (v :: w :: (A ++ z :: b :: B)) = pe (v :: w :: (A ++ [z])) ++ pe (z :: b :: (B ++ [v])) := by
      have : v :: w :: (A ++ z :: b :: B) = v :: (w :: A) ++ z :: (b :: B) := by simp
      rw [this, ed_app]
      simp
    have eG1 : ed (v :: w :: (A ++ [z])) = pe (v :: w :: (A ++ [z])) ++ [(z, v)] := by
      show pe (v :: (w :: (A ++ [z]) ++ [v])) = _
      rw [pe_snoc]
      simp [lst_glue, lst]
    have eG2 : ed (v :: z :: b :: B) = (v, z) :: pe (z :: b :: (B ++ [v])) := by
      rw [ed_cons]
      congr 1
      exact (pe_snoc v (b :: B) z).symm
    have cz : ∀ c ∈ v :: w :: (A ++ z :: b :: B), On z v c → c = v ∨ c = z := fun c hc h => by
      obtain ⟨q, hq⟩ := ed_out hc
      exact D.v1 _ _ hq h
    rw [eQ, List.mem_append] at hst'
    simp only [List.length_cons, List.length_append] at hlen
    rcases hst' with hst' | hst'
    · -- the edge lies in the first part: an ear of the second
      have key : ∃ a e b', Ear (v :: z :: b :: B) a e b' ∧ e ≠ v ∧ e ≠ z := by
        by_cases c : B = []
        · subst c
          have hb : ((z, b) : Pt × Pt) ∈ ed [v, z, b] := by simp [ed, pe]
          have hb' : ((b, v) : Pt × Pt) ∈ ed [v, z, b] := by simp [ed, pe]
          refine ⟨z, b, v, ⟨hb, hb', ?_, fun x hx _ => ?_⟩, fun e => ?_, fun e => ?_⟩
          · simp only [lst] at s1; rw [side_cyc]; exact s1
          · simp only [List.mem_cons, List.not_mem_nil, or_false] at hx
            rcases hx with h | h | h <;> simp [h]
          · exact dis v (by simp) b (by simp) e.symm
          · have := (List.nodup_append.1 nd1).2.1
            simp at this
            exact this e.symm
        · refine ih _ ?_ (v :: z :: b :: B) rfl ?_ P2 v z (by rw [eG2]; simp)
          · simp only [List.length_cons]; omega
          · have := List.length_pos_iff.2 c
            simp only [List.length_cons]; omega
      obtain ⟨a, e, b', h1, h2, h3⟩ := key
      have hE : Ear (v :: w :: (A ++ z :: b :: B)) a e b' := by
        refine sub_ear (x1 := v) (x2 := z) P2 (fun x hx => ?_) (fun f hf => ?_) (fun x hx hn => ?_) h1 h2 h3
        · simp only [List.mem_cons, List.mem_append] at hx ⊢
          rcases hx with h | h | h | h <;> simp [h]
        · rw [eG2] at hf
          rcases List.mem_cons.1 hf with h | h
          · exact .inr h
          · exact .inl (by rw [eQ]; exact List.mem_append_right _ h)
        · have hx' : x ∈ w :: A := by
            simp only [List.mem_cons, List.mem_append] at hx hn ⊢
            rcases hx with h | h | h | h
            · exact absurd (.inl h) hn
            · exact .inl h
            · exact .inr h
            · exact absurd (.inr h) hn
          refine ⟨O2 x hx', fun c d he h => ?_⟩
          have m := ed_mem he
          rw [eG2] at he
          rcases List.mem_cons.1 he with g | g
          · obtain ⟨rfl, rfl⟩ := Prod.mk.inj g
            rcases cz x hx (on_comm.1 h) with m | m
            · exact hn (by simp [m])
            · exact hn (by simp [m])
          · rcases hS.vertex_on (by rw [eQ]; exact List.mem_append_right _ g) hx h with k | k
            · exact hn (k ▸ m.1)
            · exact hn (k ▸ m.2)
      have he : e ∈ b :: B := by
        have := (ed_mem h1.l).2
        simp only [List.mem_cons] at this ⊢
        rcases this with h | h | h
        · exact absurd h h2
        · exact absurd h h3
        · exact h
      refine ⟨a, e, b', hE, fun k => ?_, fun k => ?_⟩
      · have := pe_fst (z := z) (l := v :: w :: A) (by simpa using hst')
        exact dis s this s (List.mem_cons_of_mem _ (k ▸ he)) rfl
      · have := pe_snd hst'
        simp only [List.mem_cons, List.mem_append, List.not_mem_nil, or_false] at this
        rcases this with h | h | h
        · exact dis w (by simp) e (List.mem_cons_of_mem _ he) (by rw [k, h])
        · exact dis t (by simp [h]) e (List.mem_cons_of_mem _ he) k.symm
        · exact h3 (k.trans h)
    · have key : ∃ a e b', Ear (v :: w :: (A ++ [z])) a e b' ∧ e ≠ z ∧ e ≠ v := by
        by_cases c : A = []
        · subst c
          have hb : ((v, w) : Pt × Pt) ∈ ed [v, w, z] := by simp [ed, pe]
          have hb' : ((w, z) : Pt × Pt) ∈ ed [v, w, z] := by simp [ed, pe]
          refine ⟨v, w, z, ⟨hb, hb', s2, fun x hx _ => ?_⟩, fun e => ?_, fun e => ?_⟩
          · simp only [List.nil_append, List.mem_cons, List.not_mem_nil, or_false] at hx
            exact hx
          · exact z4 e.symm
          · have := (List.nodup_append.1 nd1).1
            simp at this
            exact this e.symm
        · refine ih _ ?_ (v :: w :: (A ++ [z])) rfl ?_ P1 z v (by rw [eG1]; simp)
          · simp only [List.length_cons, List.length_append, List.length_nil]; omega
          · have := List.length_pos_iff.2 c
            simp only [List.length_cons, List.length_append, List.length_nil]; omega
      obtain ⟨a, e, b', h1, h2, h3⟩ := key
      have hE : Ear (v :: w :: (A ++ z :: b :: B)) a e b' := by
        refine sub_ear (x1 := z) (x2 := v) P1 (fun x hx => ?_) (fun f hf => ?_) (fun x hx hn => ?_) h1 h2 h3
        · simp only [List.mem_cons, List.mem_append, List.not_mem_nil, or_false] at hx ⊢
          rcases hx with h | h | h | h <;> simp [h]
        · rw [eG1, List.mem_append, List.mem_singleton] at hf
          rcases hf with h | h
          · exact .inl (by rw [eQ]; exact List.mem_append_left _ h)
          · exact .inr h
        · have hx' : x ∈ b :: B := by
            simp only [List.mem_cons, List.mem_append, List.not_mem_nil, or_false] at hx hn ⊢
            rcases hx with h | h | h | h | h
            · exact absurd (.inl h) hn
            · exact absurd (.inr (.inl h)) hn
            · exact absurd (.inr (.inr (.inl h))) hn
            · exact absurd (.inr (.inr (.inr h))) hn
            · exact h
          refine ⟨O1 x hx', fun c d he h => ?_⟩
          have m := ed_mem he
          rw [eG1, List.mem_append, List.mem_singleton] at he
          rcases he with g | g
          · rcases hS.vertex_on (by rw [eQ]; exact List.mem_append_left _ g) hx h with k | k
            · exact hn (k ▸ m.1)
            · exact hn (k ▸ m.2)
          · obtain ⟨rfl, rfl⟩ := Prod.mk.inj g
            rcases cz x hx h with k | k
            · exact hn (by simp [k])
            · exact hn (by simp [k])
      have he : e ∈ w :: A := by
        have := (ed_mem h1.l).2
        simp only [List.mem_cons, List.mem_append, List.not_mem_nil, or_false] at this ⊢
        rcases this with h | h | h | h
        · exact absurd h h3
        · exact .inl h
        · exact .inr h
        · exact absurd h h2
      refine ⟨a, e, b', hE, fun k => ?_, fun k => ?_⟩
      · have := pe_fst (z := v) (l := z :: b :: B) (by simpa using hst')
        exact dis e (List.mem_cons_of_mem _ he) s this k
      · have := pe_snd hst'
        simp only [List.mem_cons, List.mem_append, List.not_mem_nil, or_false] at this
        rcases this with h | h | h
        · exact dis e (List.mem_cons_of_mem _ he) t (by simp [h]) k
        · exact dis e (List.mem_cons_of_mem _ he) t (by simp [h]) k
        · exact h3 (k.trans h)
  · refine ⟨lst t' L, v, w, ⟨mem_ed.2 (.inr (.inr rfl)), mem_ed.2 (.inl rfl), hD, fun x hx2 hT => ?_⟩, vs, vt⟩
    apply Classical.byContradiction
    intro hno
    exact hx ⟨x, hx2, hT, hno⟩
end Go.Hu
