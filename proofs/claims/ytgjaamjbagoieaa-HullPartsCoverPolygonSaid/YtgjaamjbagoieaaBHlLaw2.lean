import Derived.Test.YtgjaamjbagoieaaBHlLaw1
set_option linter.unusedVariables false
set_option linter.unusedSimpArgs false
set_option linter.unnecessarySimpa false
/-
  HULL: translation.
-/
namespace Go.Hl
open Go Go.Am Go.Proofs Go.Hu

theorem movedL3 (l : List Pt) (hb : l.length < 1000000) (hbd : ∀ x ∈ l, Bd x) (t : Pt) (ht : Bd t) : ∀ (r : List Pt) (i : Nat) (out : List Pt), l.drop i = r → i ≤ l.length → out.length + r.length < 1000000 →
    Ev (fun n => l04MovedL3 n ((l, ((), (out, (((i : Nat) : Int), ())))), ((t.1, (t.2, ())), ()))) (((out ++ r.map (shiftP t), ()), ())) := by
  intro r
  induction r with
  | nil =>
    intro i out h1 hi ho
    have := gdrop_nil h1
    refine Ev.of_eq 1 ?_
    simp (disch := omega) only [l04MovedL3Eq, br_neg]
    exact (Ev.pure _).congr (by simp)
  | cons x r ih =>
    intro i out h1 hi ho
    obtain ⟨g1, g2, g3⟩ := gdrop h1
    have hx := hbd x (List.mem_of_getElem? g1)
    obtain ⟨⟨x1, x2⟩, x3, x4⟩ := hx
    obtain ⟨⟨t1, t2⟩, t3, t4⟩ := ht
    have hil : ((i : Nat) : Int) < ((l.length : Nat) : Int) := by omega
    have d2 : (0 : Int) ≤ ((i : Nat) : Int) := by omega
    have w1 : IntKind.i64.wrap (x.1 + t.1) = x.1 + t.1 := w64 (by omega) (by omega)
    have w2 : IntKind.i64.wrap (x.2 + t.2) = x.2 + t.2 := w64 (by omega) (by omega)
    simp only [List.length_cons] at ho
    have hc : (out.length + [(x.1 + t.1, x.2 + t.2)].length) * 16 ≤ 140737488355328 := by simp only [List.length_cons, List.length_nil]; omega
    refine Ev.of_eq 1 ?_
    simp only [l04MovedL3Eq, br_pos hil, br_pos d2, Int.toNat_natCast, g1, Option.bind_some, w1, w2, br_pos hc, wr1 i (by omega)]
    refine (ih (i + 1) (out ++ [(x.1 + t.1, x.2 + t.2)]) g2 (by omega) (by simp; omega)).congr ?_
    simp [shiftP]
theorem movedEv (l : List Pt) (hb : l.length < 1000000) (hbd : ∀ x ∈ l, Bd x) (t : Pt) (ht : Bd t) : Ev (fun n => l04Moved n l t.1 t.2) (l.map (shiftP t)) := by
  refine Ev.of_eq 1 ?_
  simp only [l04MovedEq]
  refine Ev.bind (movedL3 l hb hbd t ht l 0 [] rfl (Nat.zero_le _) (by simp; omega)) ?_
  exact (Ev.pure _).congr (by simp)

theorem cutE_mem : ∀ (k : Nat) (l : List Pt) (out : List (List Pt)), ∀ q ∈ cutE k l out, q ∈ out ∨ ∀ x ∈ q, x ∈ l := by
  intro k
  induction k with
  | zero =>
    intro l out q hq
    rcases List.mem_append.1 hq with h | h
    · exact .inl h
    · rw [List.mem_singleton.1 h]; exact .inr fun x hx => hx
  | succ k ih =>
    intro l out q hq
    unfold cutE at hq
    split at hq
    · cases he : ear l with
      | none => rw [he] at hq; simp at hq
      | some i =>
        rw [he] at hq
        have hi : i < l.length := by have := (firstF_some he).2.1; omega
        rcases ih (rest l i) (out ++ [tri l i]) q hq with h | h
        · rcases List.mem_append.1 h with h | h
          · exact .inl h
          · rw [List.mem_singleton.1 h]
            refine .inr fun x hx => ?_
            simp only [tri, List.mem_cons, List.not_mem_nil, or_false] at hx
            rcases hx with rfl | rfl | rfl
            · exact at_mem (pv_lt (by omega) i)
            · exact at_mem hi
            · exact at_mem (nx_lt (by omega) i)
        · exact .inr fun x hx => rest_mem x (h x hx)
    · rcases List.mem_append.1 hq with h | h
      · exact .inl h
      · rw [List.mem_singleton.1 h]; exact .inr fun x hx => hx
theorem decomp_mem {p : List Pt} : ∀ q ∈ decomp p, ∀ x ∈ q, x ∈ p := by
  intro q hq
  unfold decomp at hq
  split at hq
  · rw [List.mem_singleton.1 hq]; exact fun x hx => hx
  · rcases cutE_mem _ _ _ q hq with h | h
    · simp at h
    · exact h

theorem transL26 (up : Bool) (a : List (List Pt)) (t : Pt) (ht : Bd t) (hb : a.length < 1000000) (ha : ∀ q ∈ a, q.length < 1000000 ∧ ∀ x ∈ q, Bd x) : ∀ (r : List (List Pt)) (i : Nat), a.drop i = r → i ≤ a.length →
    Ev (fun n => l04HullTranslatedL26 n (((), (up, (a, (a.map (List.map (shiftP t)), (((i : Nat) : Int), ()))))), ((t.1, (t.2, ())), ()))) (.inl ((up, ()), ())) := by
  intro r
  induction r with
  | nil =>
    intro i h1 hi
    have := gdrop_nil h1
    refine Ev.of_eq 1 ?_
    simp (disch := omega) only [l04HullTranslatedL26Eq, br_neg]
    exact Ev.pure _
  | cons x r ih =>
    intro i h1 hi
    obtain ⟨g1, g2, g3⟩ := gdrop h1
    have hx := ha x (List.mem_of_getElem? g1)
    have hil : ((i : Nat) : Int) < ((a.length : Nat) : Int) := by omega
    have d2 : (0 : Int) ≤ ((i : Nat) : Int) := by omega
    have g1' : (a.map (List.map (shiftP t)))[i]? = some (x.map (shiftP t)) := by rw [List.getElem?_map, g1]; rfl
    refine Ev.of_eq 1 ?_
    simp only [l04HullTranslatedL26Eq, br_pos hil, br_pos d2, Int.toNat_natCast, g1, g1', Option.bind_some]
    refine Ev.bind (movedEv x hx.1 hx.2 t ht) (Ev.bind (sameEv _ _ (by have := hx.1; simp; omega)) ?_)
    simp (disch := omega) only [decide_true, Bool.not_true, br_f, wr1]
    exact ih (i + 1) g2 (by omega)

theorem translatedEv (l p : List Pt) (t : Pt) (hl : l.length ≤ 9223372036854775807) (hp : p.length ≤ 9223372036854775807) : Ev (fun n => l04HullTranslated n l p t.1 t.2) true := by
  refine Ev.of_eq 1 ?_
  simp only [l04HullTranslatedEq]
  refine Ev.bind headEv (Ev.bind (fitsEv l hl) (Ev.bind (fitsEv p hp) (Ev.bind (fitsEv [(t.1, t.2)] (by simp)) ?_)))
  cases h1 : fitB l with
  | false => exact Ev.pure _
  | true =>
  cases h2 : fitB p with
  | false => exact Ev.pure _
  | true =>
  cases h3 : fitB [(t.1, t.2)] with
  | false => exact Ev.pure _
  | true =>
  obtain ⟨a1, a2⟩ := fit_spec h1
  obtain ⟨b1, b2⟩ := fit_spec h2
  have ht : Bd t := (fit_spec h3).2 _ (by simp)
  simp only [Bool.not_true, br_f]
  refine Ev.bind (movedEv l (by omega) a2 t ht) (Ev.bind (movedEv p (by omega) b2 t ht) ?_)
  refine Ev.bind (fitsEv _ (by simp; omega)) (Ev.bind (fitsEv _ (by simp; omega)) ?_)
  cases h4 : fitB (l.map (shiftP t)) with
  | false => exact Ev.pure _
  | true =>
  cases h5 : fitB (p.map (shiftP t)) with
  | false => exact Ev.pure _
  | true =>
  obtain ⟨c1, c2⟩ := fit_spec h4
  obtain ⟨d1, d2⟩ := fit_spec h5
  simp only [Bool.not_true, br_f]
  refine Ev.bind (hullEv l (by omega) a2) (Ev.bind (hullEv _ (by omega) c2) ?_)
  have hlen : (hullRes l).1.length ≤ l.length := hullRes_len l
  rw [hullRes_map l (shift_side t) (shift_before t)]
  refine Ev.bind (movedEv _ (by omega) (fun x hx => a2 x (hullRes_mem l x hx)) t ht) ?_
  refine Ev.bind (sameEv _ _ (by simp; omega)) ?_
  simp only [decide_true, Bool.not_true, br_f]
  refine Ev.bind (isConvexEv p (by omega) b2) (Ev.bind (isConvexEv _ (by simp; omega) d2) ?_)
  rw [convex_map (shift_side t)]
  simp only [decide_true, Bool.not_true, br_f]
  obtain ⟨x, hx⟩ := rightTot p (by omega)
  refine Ev.bind hx ?_
  cases x with
  | false => exact Ev.pure _
  | true =>
    simp only [Bool.not_true, br_f]
    obtain ⟨s1, s2⟩ := decomp_small (p := p) (by omega)
    refine Ev.bind (decompEv p (by omega) b2) (Ev.bind (decompEv _ (by simp; omega) d2) ?_)
    rw [decomp_map (shift_side t)]
    have hlen2 : (((decomp p).length : Nat) : Int) = ((((decomp p).map (List.map (shiftP t))).length : Nat) : Int) := by simp
    simp only [nbr_pos hlen2]
    refine Ev.bind (transL26 true (decomp p) t ht (by omega) (fun q hq => ⟨by have := s2 q hq; omega, fun x hx => b2 x (decomp_mem q hq x hx)⟩) (decomp p) 0 rfl (Nat.zero_le _)) ?_
    exact Ev.pure _
end Go.Hl
