import Derived.Test.YtgjaamjbagoieaaBHlLaw3
import Derived.Test.YtgjaamjbagoieaaBHuHas
set_option linter.unusedVariables false
set_option linter.unusedSimpArgs false
set_option linter.unnecessarySimpa false
/-
  HULL: where a point lies; what a list holds.
-/
namespace Go.Hl
open Go Go.Am Go.Proofs Go.Hu

theorem edgeEv {a b p : Pt} (ha : Bd a) (hb : Bd b) (hp : Bd p) : Ev (fun n => r04Edge n a.1 a.2 b.1 b.2 p.1 p.2) (edgeB a b p) := by
  refine Ev.of_eq 1 ?_
  simp only [r04EdgeEq, decide_eq_true_eq]
  refine Ev.bind (rsideEv ha hb hp) ?_
  unfold edgeB
  have e1 : (if b.1 < a.1 then b.1 else a.1) = mn a.1 b.1 := rfl
  have e2 : (if a.1 < b.1 then b.1 else a.1) = mx a.1 b.1 := rfl
  have e3 : (if b.2 < a.2 then b.2 else a.2) = mn a.2 b.2 := rfl
  have e4 : (if a.2 < b.2 then b.2 else a.2) = mx a.2 b.2 := rfl
  rw [e1, e2, e3, e4]
  by_cases c1 : side a b p = 0
  · by_cases c2 : mn a.1 b.1 ≤ p.1
    · by_cases c3 : p.1 ≤ mx a.1 b.1
      · by_cases c4 : mn a.2 b.2 ≤ p.2
        · simp only [br_pos c1, br_pos c2, br_pos c3, br_pos c4]
          exact (Ev.pure _).congr (by rw [decide_eq_true c1, decide_eq_true c2, decide_eq_true c3, decide_eq_true c4]; rfl)
        · simp only [br_pos c1, br_pos c2, br_pos c3, br_neg c4]
          exact (Ev.pure _).congr (by rw [decide_eq_true c1, decide_eq_true c2, decide_eq_true c3, decide_eq_false c4]; rfl)
      · simp only [br_pos c1, br_pos c2, br_neg c3]
        exact (Ev.pure _).congr (by rw [decide_eq_true c1, decide_eq_true c2, decide_eq_false c3]; rfl)
    · simp only [br_pos c1, br_neg c2]
      exact (Ev.pure _).congr (by rw [decide_eq_true c1, decide_eq_false c2]; rfl)
  · simp only [br_neg c1]
    exact (Ev.pure _).congr (by rw [decide_eq_false c1]; rfl)

theorem hasL3 (p : List Pt) (hb : p.length < 1000000) (hbd : ∀ x ∈ p, Bd x) (x : Pt) (hx : Bd x) : ∀ (k i : Nat) (odd : Bool), i + k = p.length →
    ∃ r, Ev (fun n => r04HasL3 n ((p, ((), (odd, (((i : Nat) : Int), ())))), ((x.1, (x.2, ())), ()))) r ∧ ((∃ o : Bool, r = .inl ((o, ()), ()) ∧ hasGo p x k i odd = if o = true then 1 else -1) ∨ (r = .inr ((0, ()), ()) ∧ hasGo p x k i odd = 0)) := by
  intro k
  induction k with
  | zero =>
    intro i odd hi
    refine ⟨_, Ev.of_eq 1 ?_, .inl ⟨odd, rfl, rfl⟩⟩
    simp (disch := omega) only [r04HasL3Eq, br_neg]
    exact Ev.pure _
  | succ k ih =>
    intro i odd hi
    have hi' : i < p.length := by omega
    have h0 : ¬ ((p.length : Nat) : Int) = 0 := by omega
    have hil : ((i : Nat) : Int) < ((p.length : Nat) : Int) := by omega
    have hn := nx_lt (h := p) (by omega) i
    have gi := Go.Hu.get_at hi'
    have gn := Go.Hu.get_at hn
    have ti : ((i + 1 : Nat) : Int).tmod ((p.length : Nat) : Int) = ((nx p i : Nat) : Int) := tm_nat _ _
    have d1 : (0 : Int) ≤ ((i : Nat) : Int) := by omega
    have d3 : (0 : Int) ≤ ((nx p i : Nat) : Int) := by omega
    have hed := edgeEv (hbd _ (at_mem hi')) (hbd _ (at_mem hn)) hx
    cases he : edgeB (at_ p i) (at_ p (nx p i)) x with
    | true =>
      rw [he] at hed
      refine ⟨.inr ((0, ()), ()), Ev.of_eq 1 ?_, .inr ⟨rfl, by unfold hasGo; rw [if_pos he]⟩⟩
      simp only [r04HasL3Eq, br_pos hil, wr1 i (by omega), ti, br_neg h0, br_pos d1, br_pos d3, Int.toNat_natCast, gi, gn, Option.bind_some]
      refine Ev.bind (x := .inr ((0, ()), ())) (Ev.bind hed ?_) ?_
      · simp only [br_t]; exact Ev.pure _
      · exact Ev.pure _
    | false =>
      rw [he] at hed
      obtain ⟨r, h1, h2⟩ := ih (i + 1) (if togB (at_ p i) (at_ p (nx p i)) x = true then !odd else odd) (by omega)
      refine ⟨r, Ev.of_eq 1 ?_, by unfold hasGo; rw [if_neg (by rw [he]; simp)]; exact h2⟩
      simp only [r04HasL3Eq, br_pos hil, wr1 i (by omega), ti, br_neg h0, br_pos d1, br_pos d3, Int.toNat_natCast, gi, gn, Option.bind_some]
      refine Ev.bind (x := .inl ((p, ((), ((if togB (at_ p i) (at_ p (nx p i)) x = true then !odd else odd), (((i : Nat) : Int), ())))), ((x.1, (x.2, ())), ()))) (Ev.bind hed ?_) ?_
      · simp only [br_f]
        unfold togB
        by_cases c1 : decide ((at_ p i).2 ≤ x.2) = decide ((at_ p (nx p i)).2 ≤ x.2)
        · simp only [br_pos c1]
          exact (Ev.pure _).congr (by rw [decide_eq_true c1]; rfl)
        · simp only [br_neg c1]
          refine Ev.bind (rsideEv (hbd _ (at_mem hi')) (hbd _ (at_mem hn)) hx) ?_
          by_cases c2 : decide ((at_ p i).2 < (at_ p (nx p i)).2) = decide (0 < side (at_ p i) (at_ p (nx p i)) x)
          · simp only [br_pos c2]
            exact (Ev.pure _).congr (by rw [decide_eq_false c1, decide_eq_true c2]; rfl)
          · simp only [br_neg c2]
            exact (Ev.pure _).congr (by rw [decide_eq_false c1, decide_eq_false c2]; rfl)
      · simp only [wr1 i (by omega)]
        exact h1
theorem hasEv (p : List Pt) (hb : p.length < 1000000) (hbd : ∀ x ∈ p, Bd x) (x : Pt) (hx : Bd x) : Ev (fun n => r04Has n p x.1 x.2) (hasR p x) := by
  refine Ev.of_eq 1 ?_
  simp only [r04HasEq]
  obtain ⟨r, h1, h2⟩ := hasL3 p hb hbd x hx p.length 0 false (by omega)
  refine Ev.bind h1 ?_
  unfold hasR
  rcases h2 with ⟨o, rfl, h2⟩ | ⟨rfl, h2⟩
  · rw [h2]
    cases o with
    | true => exact Ev.pure _
    | false => exact Ev.pure _
  · rw [h2]; exact Ev.pure _

theorem memL2 (l : List Pt) (hb : l.length < 1000000) (x : Pt) : ∀ (r : List Pt) (i : Nat), l.drop i = r → i ≤ l.length →
    Ev (fun n => l04HasL2 n ((l, ((), (((i : Nat) : Int), ()))), ((x.1, (x.2, ())), ()))) (if x ∈ r then .inr ((true, ()), ()) else .inl ((), ())) := by
  intro r
  induction r with
  | nil =>
    intro i h1 hi
    have := gdrop_nil h1
    refine Ev.of_eq 1 ?_
    simp (disch := omega) only [l04HasL2Eq, br_neg]
    exact (Ev.pure _).congr (by simp)
  | cons y r ih =>
    intro i h1 hi
    obtain ⟨g1, g2, g3⟩ := gdrop h1
    have hil : ((i : Nat) : Int) < ((l.length : Nat) : Int) := by omega
    have d1 : (0 : Int) ≤ ((i : Nat) : Int) := by omega
    refine Ev.of_eq 1 ?_
    simp only [l04HasL2Eq, br_pos hil, br_pos d1, Int.toNat_natCast, g1, Option.bind_some, beq_pt y x, wr1 i (by omega)]
    by_cases c : y = x
    · simp only [br_pos c]
      exact (Ev.pure _).congr (by rw [if_pos (by rw [c]; simp)])
    · simp only [br_neg c]
      refine (ih (i + 1) g2 (by omega)).congr ?_
      by_cases hm : x ∈ r
      · rw [if_pos hm, if_pos (List.mem_cons_of_mem _ hm)]
      · rw [if_neg hm, if_neg (fun h => by rcases List.mem_cons.1 h with h | h; exact c h.symm; exact hm h)]
theorem memEv (l : List Pt) (hb : l.length < 1000000) (x : Pt) : Ev (fun n => l04Has n l x.1 x.2) (decide (x ∈ l)) := by
  refine Ev.of_eq 1 ?_
  simp only [l04HasEq]
  refine Ev.bind (memL2 l hb x l 0 rfl (Nat.zero_le _)) ?_
  by_cases h : x ∈ l
  · rw [if_pos h, decide_eq_true h]; exact Ev.pure _
  · rw [if_neg h, decide_eq_false h]; exact Ev.pure _

/-! ### HullContainsInput -/
theorem contL12 (l : List Pt) (hb : l.length < 1000000) (hbd : ∀ x ∈ l, Bd x) (up : Bool) (h : List Pt) (a b : Pt) (ha : Bd a) (hb' : Bd b) (hz : ∀ x ∈ l, side a b x = 0) : ∀ (r : List Pt) (i : Nat), l.drop i = r → i ≤ l.length →
    Ev (fun n => l04HullContainsInputL12 n ((l, (up, (h, ((), ((), (((i : Nat) : Int), ())))))), ((a.1, (a.2, ())), ((b.1, (b.2, ())), ())))) (.inl ((up, (h, ())), ())) := by
  intro r
  induction r with
  | nil =>
    intro i h1 hi
    have := gdrop_nil h1
    refine Ev.of_eq 1 ?_
    simp (disch := omega) only [l04HullContainsInputL12Eq, br_neg]
    exact Ev.pure _
  | cons y r ih =>
    intro i h1 hi
    obtain ⟨g1, g2, g3⟩ := gdrop h1
    have hy := List.mem_of_getElem? g1
    have hil : ((i : Nat) : Int) < ((l.length : Nat) : Int) := by omega
    have d1 : (0 : Int) ≤ ((i : Nat) : Int) := by omega
    refine Ev.of_eq 1 ?_
    simp only [l04HullContainsInputL12Eq, br_pos hil, br_pos d1, Int.toNat_natCast, g1, Option.bind_some, wr1 i (by omega)]
    refine Ev.bind (rsideEv ha hb' (hbd y hy)) ?_
    simp only [nbr_pos (hz y hy)]
    exact ih (i + 1) g2 (by omega)
theorem contL21 (l : List Pt) (hb : l.length < 1000000) (up : Bool) (h : List Pt) (hh : h.length < 1000000) (h0 : 0 < h.length) (hs : ∀ x ∈ h, x ∈ l) (hf : ∀ q ∈ h, q = at_ h 0 ∨ before true (at_ h 0) q) : ∀ (r : List Pt) (i : Nat), h.drop i = r → i ≤ h.length →
    Ev (fun n => l04HullContainsInputL21 n ((l, (up, (h, (((i : Nat) : Int), ())))), ())) (.inl ((l, (up, (h, ()))), ())) := by
  intro r
  have g0 : h[Int.toNat 0]? = some (at_ h 0) := Go.Hu.get_at h0
  induction r with
  | nil =>
    intro i h1 hi
    have := gdrop_nil h1
    refine Ev.of_eq 1 ?_
    simp (disch := omega) only [l04HullContainsInputL21Eq, br_neg]
    exact Ev.pure _
  | cons y r ih =>
    intro i h1 hi
    obtain ⟨g1, g2, g3⟩ := gdrop h1
    have hy := List.mem_of_getElem? g1
    have hil : ((i : Nat) : Int) < ((h.length : Nat) : Int) := by omega
    have d1 : (0 : Int) ≤ ((i : Nat) : Int) := by omega
    have cont := ih (i + 1) g2 (by omega)
    refine Ev.of_eq 1 ?_
    simp only [l04HullContainsInputL21Eq, br_pos hil, br_pos d1, Int.toNat_natCast, g1, g0, Option.bind_some, wr1 i (by omega)]
    refine Ev.bind (memEv l hb y) ?_
    rw [decide_eq_true (hs y hy)]
    simp only [Bool.not_true, br_f]
    have key : ¬ y.1 < (at_ h 0).1 ∧ (y.1 = (at_ h 0).1 → ¬ y.2 < (at_ h 0).2) := by
      rcases hf y hy with e | e
      · rw [e]; exact ⟨by omega, fun _ => by omega⟩
      · simp only [before] at e
        omega
    by_cases c : y.1 = (at_ h 0).1
    · simp only [br_neg key.1, br_pos c, br_neg (key.2 c)]
      exact cont
    · simp only [br_neg key.1, br_neg c]
      exact cont
theorem contL27 (l : List Pt) (hb : l.length < 1000000) (hbd : ∀ x ∈ l, Bd x) (up : Bool) (h : List Pt) (hh : h.length < 1000000) (hhb : ∀ x ∈ h, Bd x) (h1 : ∀ x ∈ l, 0 ≤ hasR h x ∧ (x ∈ h → hasR h x = 0)) : ∀ (r : List Pt) (i : Nat), l.drop i = r → i ≤ l.length →
    Ev (fun n => l04HullContainsInputL27 n ((l, (up, (h, (((i : Nat) : Int), ())))), ())) (.inl ((up, ()), ())) := by
  intro r
  induction r with
  | nil =>
    intro i h2 hi
    have := gdrop_nil h2
    refine Ev.of_eq 1 ?_
    simp (disch := omega) only [l04HullContainsInputL27Eq, br_neg]
    exact Ev.pure _
  | cons y r ih =>
    intro i h2 hi
    obtain ⟨g1, g2, g3⟩ := gdrop h2
    have hy := List.mem_of_getElem? g1
    have hil : ((i : Nat) : Int) < ((l.length : Nat) : Int) := by omega
    have d1 : (0 : Int) ≤ ((i : Nat) : Int) := by omega
    have cont := ih (i + 1) g2 (by omega)
    refine Ev.of_eq 1 ?_
    simp only [l04HullContainsInputL27Eq, br_pos hil, br_pos d1, Int.toNat_natCast, g1, Option.bind_some, wr1 i (by omega)]
    refine Ev.bind (hasEv h hh hhb y (hbd y hy)) (Ev.bind (memEv h hh y) ?_)
    obtain ⟨k1, k2⟩ := h1 y hy
    have c1 : ¬ hasR h y < 0 := by omega
    simp only [br_neg c1]
    by_cases c : y ∈ h
    · rw [decide_eq_true c]
      simp only [br_t, nbr_pos (k2 c)]
      exact cont
    · rw [decide_eq_false c]
      simp only [br_f]
      exact cont
theorem containsEv (l : List Pt) (i k : Int) (hl : l.length ≤ 9223372036854775807) (hi : 0 ≤ i ∧ i < 256) (hk : 0 ≤ k ∧ k < 256) : Ev (fun n => l04HullContainsInput n l i k) true := by
  refine Ev.of_eq 1 ?_
  simp only [l04HullContainsInputEq]
  refine Ev.bind headEv (Ev.bind (fitsEv l hl) ?_)
  cases h1 : fitB l with
  | false => exact Ev.pure _
  | true =>
  obtain ⟨a1, a2⟩ := fit_spec h1
  simp only [Bool.not_true, br_f]
  refine Ev.bind (hullEv l (by omega) a2) ?_
  have hlen : (hullRes l).1.length ≤ l.length := hullRes_len l
  rcases hullRes_spec l with ⟨h, hz⟩ | ⟨h, hh, H⟩
  · rw [h]
    simp only [Bool.not_false, br_t]
    have z0 : (([] : List Pt).length : Int) = 0 := rfl
    by_cases h3 : l.length < 3
    · have h3' : ((l.length : Nat) : Int) < 3 := by omega
      simp only [br_pos h3']
      exact Ev.pure _
    · have h3' : ¬ ((l.length : Nat) : Int) < 3 := by omega
      have h0 : ¬ ((l.length : Nat) : Int) = 0 := by omega
      obtain ⟨i', rfl⟩ : ∃ w : Nat, i = (w : Int) := ⟨i.toNat, by omega⟩
      obtain ⟨k', rfl⟩ : ∃ w : Nat, k = (w : Int) := ⟨k.toNat, by omega⟩
      have w1 : IntKind.i64.wrap (i' : Int) = (i' : Int) := w64 (by omega) (by omega)
      have w2 : IntKind.i64.wrap (k' : Int) = (k' : Int) := w64 (by omega) (by omega)
      have m1 : i' % l.length < l.length := Nat.mod_lt _ (by omega)
      have m2 : k' % l.length < l.length := Nat.mod_lt _ (by omega)
      have d1 : (0 : Int) ≤ ((i' % l.length : Nat) : Int) := Int.natCast_nonneg _
      have d2 : (0 : Int) ≤ ((k' % l.length : Nat) : Int) := Int.natCast_nonneg _
      simp only [br_neg h3', br_neg h0, w1, w2, tm_nat, br_pos d1, br_pos d2, Int.toNat_natCast, Go.Hu.get_at m1, Go.Hu.get_at m2, Option.bind_some]
      have := contL12 l (by omega) a2 true [] (at_ l (i' % l.length)) (at_ l (k' % l.length)) (a2 _ (at_mem m1)) (a2 _ (at_mem m2)) (fun x hx => hz _ _ _ (at_mem m1) (at_mem m2) hx) l 0 rfl (Nat.zero_le _)
      refine Ev.bind this ?_
      exact Ev.pure _
  · rw [hh] at hlen ⊢
    simp only at hlen
    simp only [Bool.not_true, br_f]
    have hm : ∀ x ∈ h, x ∈ l := H.sub
    have hhb : ∀ x ∈ h, Bd x := fun x hx => a2 x (hm x hx)
    have c1 : ¬ ((h.length : Nat) : Int) < 3 := by have := H.len; omega
    have c2 : ¬ ((l.length : Nat) : Int) < ((h.length : Nat) : Int) := by omega
    simp only [br_neg c1, br_neg c2]
    refine Ev.bind (isConvexEv h (by omega) hhb) ?_
    rw [H.toRing.convex]
    simp only [Bool.not_true, br_f]
    have e21 := contL21 l (by omega) true h (by omega) H.pos hm (fun q hq => H.first q (hm q hq)) h 0 rfl (Nat.zero_le _)
    refine Ev.bind e21 ?_
    have e27 := contL27 l (by omega) a2 true h (by omega) hhb (fun x hx => by
      obtain ⟨k1, k2⟩ := H.toRing.has_in hx
      refine ⟨k1, fun hxh => k2 ?_⟩
      obtain ⟨j, j1, rfl⟩ := mem_at hxh
      exact ⟨j, j1, edge_self _ _⟩) l 0 rfl (Nat.zero_le _)
    refine Ev.bind e27 ?_
    exact Ev.pure _
end Go.Hl
