import Derived.Test.YtgjaamjbagoieaaBHuJ13
set_option linter.unusedVariables false
set_option linter.unusedSimpArgs false
set_option linter.unnecessarySimpa false
/-
  A polygon that the validity test takes is simple and runs to the left.
-/
namespace Go.Hu

theorem pe_rev : ∀ l : List Pt, ∀ a b, (a, b) ∈ pe l.reverse ↔ (b, a) ∈ pe l := by
  intro l
  induction l with
  | nil => intro a b; simp [pe]
  | cons x l ih =>
    intro a b
    cases l with
    | nil => simp [pe]
    | cons y l =>
      have e : (x :: y :: l).reverse = l.reverse ++ y :: [x] := by simp
      rw [e, pe_glue, List.mem_append]
      have e2 : l.reverse ++ [y] = (y :: l).reverse := by simp
      rw [e2, ih a b]
      simp only [pe, List.mem_cons, List.not_mem_nil, or_false, Prod.mk.injEq]
      constructor
      · rintro (h | ⟨h1, h2⟩)
        · exact .inr h
        · exact .inl ⟨h2, h1⟩
      · rintro (⟨h1, h2⟩ | h)
        · exact .inr ⟨h2, h1⟩
        · exact .inl h
theorem sm_rev (g : Pt × Pt → Int) (hg : ∀ a b, g (a, b) = - g (b, a)) : ∀ l : List Pt, sm g (pe l.reverse) = - sm g (pe l) := by
  intro l
  induction l with
  | nil => simp [pe, sm]
  | cons x l ih =>
    cases l with
    | nil => simp [pe, sm]
    | cons y l =>
      have e : (x :: y :: l).reverse = l.reverse ++ y :: [x] := by simp
      have e2 : l.reverse ++ [y] = (y :: l).reverse := by simp
      rw [e, pe_glue, sm_app, e2, ih]
      simp only [pe, sm]
      have := hg y x
      omega
theorem ed_rev (v : Pt) (l : List Pt) : ed (v :: l.reverse) = pe (v :: (l ++ [v])).reverse := by
  simp [ed]
theorem nx_rev {c d a b : Pt} (h : NX c d a b) : NX d c b a :=
  ⟨fun g => h.2.1 (on_comm.1 g), fun g => h.1 (on_comm.1 g), fun g => h.2.2.2.1 (on_comm.1 g), fun g => h.2.2.1 (on_comm.1 g), fun g => h.2.2.2.2 (crs_swap'.1 (crs_swap.1 g))⟩
theorem Simple.rev {v : Pt} {l : List Pt} (S : Simple (v :: l)) : Simple (v :: l.reverse) := by
  have em : ∀ a b, (a, b) ∈ ed (v :: l.reverse) ↔ (b, a) ∈ ed (v :: l) := fun a b => by rw [ed_rev, pe_rev]; rfl
  refine ⟨?_, by have := S.len; simpa using this, fun c d a b h1 h2 h3 => ?_⟩
  · have h := List.nodup_cons.1 S.nd
    exact List.nodup_cons.2 ⟨by simpa using h.1, by rw [(List.reverse_perm l).nodup_iff]; exact h.2⟩
  · exact nx_rev (S.nx _ _ _ _ ((em _ _).1 h1) ((em _ _).1 h2) (fun e => h3 (by obtain ⟨e1, e2⟩ := Prod.mk.inj e; rw [e1, e2])))
theorem carea_rev (v : Pt) (l : List Pt) : carea (v :: l.reverse) = - carea (v :: l) := by
  unfold carea
  rw [ed_rev, sm_rev crs0 (fun a b => by unfold crs0; grind)]
  rfl
theorem shape3 {P : List Pt} (h : 3 ≤ P.length) : ∃ v w t L, P = v :: w :: t :: L := by
  match P, h with
  | v :: w :: t :: L, _ => exact ⟨v, w, t, L, rfl⟩
/-- Every simple polygon has an extreme corner; turned to the head. -/
theorem Simple.head {P : List Pt} (S : Simple P) : ∃ A v B dx dy, P = A ++ v :: B ∧ Ext (v :: (B ++ A)) v dx dy := by
  have key : ∃ v ∈ P, ∃ dx dy, Ext P v dx dy := by
    obtain ⟨s, t, t', L, rfl⟩ := shape3 S.len
    have hn : s ≠ t := fun e => S.notin (by simp [e])
    by_cases c1 : ∃ p ∈ s :: t :: t' :: L, 0 < side s t p
    · obtain ⟨p, h1, h2⟩ := c1
      obtain ⟨v, v1, _, _, v4⟩ := ext_exists (by simp) (by simp) hn h1 h2
      exact ⟨v, v1, v4⟩
    · by_cases c2 : ∃ p ∈ s :: t :: t' :: L, 0 < side t s p
      · obtain ⟨p, h1, h2⟩ := c2
        obtain ⟨v, v1, _, _, v4⟩ := ext_exists (by simp) (by simp) (fun e => hn e.symm) h1 h2
        exact ⟨v, v1, v4⟩
      · have all : ∀ p ∈ s :: t :: t' :: L, side s t p = 0 := fun p hp => by
          have k1 : ¬ 0 < side s t p := fun k => c1 ⟨p, hp, k⟩
          have k2 : ¬ 0 < side t s p := fun k => c2 ⟨p, hp, k⟩
          rw [side_swap] at k2
          omega
        exact ext_line (by simp) hn all
  obtain ⟨v, v1, dx, dy, E⟩ := key
  obtain ⟨A, B, rfl⟩ := List.append_of_mem v1
  exact ⟨A, v, B, dx, dy, rfl, E.sub fun x hx => by
    simp only [List.mem_cons, List.mem_append] at hx ⊢
    rcases hx with h | h | h <;> simp [h]⟩
theorem Pos.cut {l : List Pt} (S : Pos l) : ∃ ps, Cut l ps ∧ cutE l.length l [] = ps := by
  obtain ⟨ps, h1, h2⟩ := cutE_cut l.length l [] S (by omega)
  exact ⟨ps, h1, by rw [h2]; rfl⟩
theorem simple_pos {P : List Pt} (S : Simple P) (ha : 0 < carea P) : Pos P := by
  obtain ⟨A, v, B, dx, dy, rfl, E⟩ := S.head
  have R : Simple (v :: (B ++ A)) := S.rot
  have hlen := R.len
  have ar : carea (A ++ v :: B) = carea (v :: (B ++ A)) := (sameP_rot A (v :: B)).area
  suffices hP : Pos (v :: (B ++ A)) from Pos.rot (A := v :: B) (B := A) hP
  rw [ar] at ha
  clear S ar
  generalize B ++ A = C at *
  obtain ⟨v', w, t, L, e⟩ := shape3 hlen
  obtain ⟨rfl, rfl⟩ := List.cons.inj e
  refine ⟨R, ?_⟩
  obtain ⟨n1, n2⟩ := ext_turn R E
  refine n2.2 ?_
  rcases sgn_cases (side (lst t L) v w) with g | g | g
  · exfalso
    have Rv := R.rev
    have Ev : Ext (v :: (w :: t :: L).reverse) v dx dy := E.sub fun x hx => by simp only [List.mem_cons, List.mem_reverse] at hx ⊢; exact hx
    have av := carea_rev v (w :: t :: L)
    have em : ∀ a b, (a, b) ∈ ed (v :: (w :: t :: L).reverse) ↔ (b, a) ∈ ed (v :: w :: t :: L) := fun a b => by rw [ed_rev, pe_rev]; rfl
    have l1 : (w, v) ∈ ed (v :: (w :: t :: L).reverse) := (em _ _).2 (mem_ed.2 (.inl rfl))
    have l2 : (v, lst t L) ∈ ed (v :: (w :: t :: L).reverse) := (em _ _).2 (mem_ed.2 (.inr (.inr rfl)))
    generalize (w :: t :: L).reverse = C' at *
    obtain ⟨v', w', t', L', e⟩ := shape3 Rv.len
    obtain ⟨rfl, rfl⟩ := List.cons.inj e
    have k1 := ed_prev Rv l1
    have k2 := ed_next Rv l2
    rw [lst_cons_eq] at k1
    have P' : Pos (v :: w' :: t' :: L') := ⟨Rv, (ext_turn Rv Ev).2.2 (by
      rw [← k1, ← k2]
      have := side_flip v w (lst t L)
      have := side_cyc (lst t L) v w
      have := side_cyc w v (lst t L)
      omega)⟩
    obtain ⟨ps, h1, _⟩ := P'.cut
    have := h1.area_pos
    omega
  · exact absurd g n1
  · exact g
theorem nx_adj {a b c : Pt} (h : side a b c ≠ 0) : NX a b b c := by
  refine ⟨fun _ => rfl, fun g => absurd g.1 h, fun g => ?_, fun _ => rfl, fun g => ?_⟩
  · have := g.1; have := side_cyc a b c; omega
  · have := g.1; rw [side_self3] at this; omega
/-- What the validity test says of the edges. -/
theorem simple_of {P : List Pt} (h3 : 3 ≤ P.length) (h1 : ∀ i, i < P.length → side (at_ P i) (at_ P (nx P i)) (at_ P ((i + 2) % P.length)) ≠ 0)
    (h2 : ∀ i k, i < k → k < P.length → k ≠ i + 1 → ¬ (i = 0 ∧ k + 1 = P.length) → ¬ Meet (at_ P i) (at_ P (nx P i)) (at_ P k) (at_ P (nx P k))) : Simple P := by
  have nn2 : ∀ i, i < P.length → (i + 2) % P.length = nx P (nx P i) := fun i hi => by
    unfold nx
    rw [Nat.mod_add_mod]
  have adj : ∀ i, i < P.length → NX (at_ P i) (at_ P (nx P i)) (at_ P (nx P i)) (at_ P (nx P (nx P i))) := fun i hi => by
    have := h1 i hi
    rw [nn2 i hi] at this
    exact nx_adj this
  have wrap : ∀ k, k + 1 = P.length → nx P k = 0 := fun k hk => by unfold nx; rw [hk, Nat.mod_self]
  have next : ∀ i, i + 1 < P.length → nx P i = i + 1 := fun i hi => by unfold nx; rw [Nat.mod_eq_of_lt hi]
  have lt : ∀ i k, i < k → k < P.length → at_ P i ≠ at_ P k ∧ NX (at_ P i) (at_ P (nx P i)) (at_ P k) (at_ P (nx P k)) := fun i k hik hk => by
    by_cases c1 : k = i + 1
    · subst c1
      have a := adj i (by omega)
      rw [next i hk] at a ⊢
      refine ⟨fun e => ?_, a⟩
      have := h1 i (by omega)
      rw [next i hk, e, side_self1] at this
      exact this rfl
    · by_cases c2 : i = 0 ∧ k + 1 = P.length
      · obtain ⟨rfl, c2⟩ := c2
        have a := adj k hk
        rw [wrap k c2] at a ⊢
        refine ⟨fun e => ?_, nx_comm a⟩
        have := h1 k hk
        rw [wrap k c2, ← e, side_self1] at this
        exact this rfl
      · have m := h2 i k hik hk c1 c2
        refine ⟨fun e => ?_, meet_nx m⟩
        exact m (.inl (by rw [← e]; exact on_l _ _))
  refine ⟨?_, h3, fun c d a b e1 e2 hne => ?_⟩
  · rw [List.nodup_iff_pairwise_ne, List.pairwise_iff_getElem]
    intro i j hi hj hij e
    refine (lt i j hij hj).1 ?_
    rw [at_of (List.getElem?_eq_getElem hi), at_of (List.getElem?_eq_getElem hj), e]
  · obtain ⟨i, hi, rfl, rfl⟩ := ed_idx.1 e1
    obtain ⟨k, hk, rfl, rfl⟩ := ed_idx.1 e2
    rcases Nat.lt_trichotomy i k with g | g | g
    · exact (lt i k g hk).2
    · subst g; exact absurd rfl hne
    · exact nx_comm (lt k i g hi).2
end Go.Hu
