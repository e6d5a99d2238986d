import Derived.Test.YtgjaamjbagoieaaBHlParts
set_option linter.unusedVariables false
set_option linter.unusedSimpArgs false
set_option linter.unnecessarySimpa false
/-
  HULL: the validity test ends.
-/
namespace Go.Hl
open Go Go.Am Go.Proofs Go.Hu

def TotP {α : Type} (P : α → Prop) (f : Nat → Option α) : Prop := ∃ x, P x ∧ Ev f x
theorem TotP.pure {α : Type} {P : α → Prop} {x : α} (h : P x) : TotP P (fun _ => some x) := ⟨x, h, Ev.pure x⟩
theorem TotP.bind {α β : Type} {P : β → Prop} {f : Nat → Option α} {g : Nat → α → Option β} (h : Tot f) (k : ∀ x, TotP P fun n => g n x) : TotP P (fun n => (f n).bind (g n)) := by
  obtain ⟨x, hx⟩ := h
  obtain ⟨y, hp, hy⟩ := k x
  exact ⟨y, hp, Ev.bind hx hy⟩
theorem TotP.bindP {α β : Type} {Q : α → Prop} {P : β → Prop} {f : Nat → Option α} {g : Nat → α → Option β} (h : TotP Q f) (k : ∀ x, Q x → TotP P fun n => g n x) : TotP P (fun n => (f n).bind (g n)) := by
  obtain ⟨x, hq, hx⟩ := h
  obtain ⟨y, hp, hy⟩ := k x hq
  exact ⟨y, hp, Ev.bind hx hy⟩
theorem TotP.br {α : Type} {P : α → Prop} {b : Bool} {f g : Nat → Option α} (h : TotP P f) (k : TotP P g) : TotP P (fun n => br b (f n) (g n)) := by
  cases b
  · exact k
  · exact h
theorem TotP.of_eq {α : Type} {P : α → Prop} {f : Nat → Option α} (k : Nat) (h : TotP P fun n => f (n + k)) : TotP P f := by
  obtain ⟨x, hp, hx⟩ := h
  exact ⟨x, hp, Ev.of_eq k hx⟩

theorem TotP.tot {α : Type} {P : α → Prop} {f : Nat → Option α} (h : TotP P f) : Tot f := by
  obtain ⟨x, _, hx⟩ := h
  exact ⟨x, hx⟩

theorem rightL12 (l : List Pt) (hb : l.length < 1000) (i : Nat) (hi : i < l.length) : ∀ (m k : Nat), k + m = l.length →
    TotP (fun r => r = .inl ((l, (((l.length : Nat) : Int), (((i : Nat) : Int), ()))), ()) ∨ r = .inr ((false, ()), ())) (fun n => r04RightL12 n ((l, (((l.length : Nat) : Int), (((i : Nat) : Int), (((k : Nat) : Int), ())))), ())) := by
  intro m
  have h0 : ¬ ((l.length : Nat) : Int) = 0 := by omega
  have hn := nx_lt (h := l) (by omega) i
  have gi := Go.Hu.get_at hi
  have gn := Go.Hu.get_at hn
  have ti : ((i + 1 : Nat) : Int).tmod ((l.length : Nat) : Int) = ((nx l i : Nat) : Int) := tm_nat _ _
  induction m with
  | zero =>
    intro k hk
    refine TotP.of_eq 1 ?_
    simp (disch := omega) only [r04RightL12Eq, br_neg]
    exact TotP.pure (.inl rfl)
  | succ m ih =>
    intro k hk
    have hkl : ((k : Nat) : Int) < ((l.length : Nat) : Int) := by omega
    have hn2 := nx_lt (h := l) (by omega) k
    have gk := Go.Hu.get_at (h := l) (i := k) (by omega)
    have gk2 := Go.Hu.get_at hn2
    have tk : ((k + 1 : Nat) : Int).tmod ((l.length : Nat) : Int) = ((nx l k : Nat) : Int) := tm_nat _ _
    have d1 : (0 : Int) ≤ ((i : Nat) : Int) := by omega
    have d2 : (0 : Int) ≤ ((k : Nat) : Int) := by omega
    have d3 : (0 : Int) ≤ ((nx l i : Nat) : Int) := by omega
    have d4 : (0 : Int) ≤ ((nx l k : Nat) : Int) := by omega
    have cont := ih (k + 1) (by omega)
    refine TotP.of_eq 1 ?_
    simp only [r04RightL12Eq, br_pos hkl, wr1 i (by omega), wr1 k (by omega), ti, tk, br_neg h0, br_pos d1, br_pos d2, br_pos d3, br_pos d4, Int.toNat_natCast, gi, gn, gk, gk2, Option.bind_some]
    repeat (first | exact cont | exact TotP.pure (.inr rfl) | refine TotP.bind (cutTot ..) fun x => ?_ | refine TotP.br ?_ ?_)
theorem rightL6 (l : List Pt) (hb : l.length < 1000) : ∀ (m i : Nat), i + m = l.length →
    TotP (fun r => r = .inl ((l, ()), ()) ∨ r = .inr ((false, ()), ())) (fun n => r04RightL6 n ((l, (((l.length : Nat) : Int), (((i : Nat) : Int), ()))), ())) := by
  intro m
  induction m with
  | zero =>
    intro i hi
    refine TotP.of_eq 1 ?_
    simp (disch := omega) only [r04RightL6Eq, br_neg]
    exact TotP.pure (.inl rfl)
  | succ m ih =>
    intro i hi
    have h0 : ¬ ((l.length : Nat) : Int) = 0 := by omega
    have hil : ((i : Nat) : Int) < ((l.length : Nat) : Int) := by omega
    have hn := nx_lt (h := l) (by omega) i
    have hn2 : (i + 2) % l.length < l.length := Nat.mod_lt _ (by omega)
    have gi := Go.Hu.get_at (h := l) (i := i) (by omega)
    have gn := Go.Hu.get_at hn
    have gm := Go.Hu.get_at hn2
    have ti : ((i + 1 : Nat) : Int).tmod ((l.length : Nat) : Int) = ((nx l i : Nat) : Int) := tm_nat _ _
    have t2 : IntKind.i64.wrap (((i : Nat) : Int) + 2) = ((i + 2 : Nat) : Int) := by rw [w64 (by omega) (by omega)]; rfl
    have tj : ((i + 2 : Nat) : Int).tmod ((l.length : Nat) : Int) = (((i + 2) % l.length : Nat) : Int) := tm_nat _ _
    have d1 : (0 : Int) ≤ ((i : Nat) : Int) := by omega
    have d2 : (0 : Int) ≤ (((i + 2) % l.length : Nat) : Int) := Int.natCast_nonneg _
    have d3 : (0 : Int) ≤ ((nx l i : Nat) : Int) := by omega
    refine TotP.of_eq 1 ?_
    simp only [r04RightL6Eq, br_pos hil, wr1 i (by omega), t2, ti, tj, br_neg h0, br_pos d1, br_pos d2, br_pos d3, Int.toNat_natCast, gi, gn, gm, Option.bind_some]
    refine TotP.bind (sideTot ..) fun x => TotP.br (TotP.pure (.inr rfl)) ?_
    refine TotP.bindP (rightL12 l hb i (by omega) (l.length - (i + 1)) (i + 1) (by omega)) fun r hr => ?_
    rcases hr with rfl | rfl
    · simp only [wr1 i (by omega)]
      exact ih (i + 1) (by omega)
    · exact TotP.pure (.inr rfl)
theorem area2L3 (l : List Pt) (hb : l.length < 1000) (h1 : 0 < l.length) : ∀ (m i : Nat) (s : Int), i + m = l.length → 1 ≤ i → Tot (fun n => r04Area2L3 n ((l, (s, (((i : Nat) : Int), ()))), ())) := by
  intro m
  induction m with
  | zero =>
    intro i s hi _
    refine Tot.of_eq 1 ?_
    simp (disch := omega) only [r04Area2L3Eq, wr1, br_neg]
    exact Tot.pure _
  | succ m ih =>
    intro i s hi h1i
    refine Tot.of_eq 1 ?_
    by_cases hc : i + 1 < l.length
    · have hc' : ((i + 1 : Nat) : Int) < ((l.length : Nat) : Int) := by omega
      have g0 : l[Int.toNat 0]? = some (at_ l 0) := Go.Hu.get_at h1
      have gi := Go.Hu.get_at (h := l) (i := i) (by omega)
      have gj := Go.Hu.get_at (h := l) (i := i + 1) hc
      have d1 : (0 : Int) ≤ ((i : Nat) : Int) := by omega
      have d2 : (0 : Int) ≤ ((i + 1 : Nat) : Int) := by omega
      simp only [r04Area2L3Eq, wr1 i (by omega), br_pos hc', g0, br_pos d1, br_pos d2, Int.toNat_natCast, gi, gj, Option.bind_some]
      exact Tot.bind (sideTot ..) fun x => ih (i + 1) _ (by omega) (by omega)
    · have hc' : ¬ ((i + 1 : Nat) : Int) < ((l.length : Nat) : Int) := by omega
      simp only [r04Area2L3Eq, wr1 i (by omega), br_neg hc']
      exact Tot.pure _
theorem rightTot (l : List Pt) (hb : l.length < 1000) : Tot (fun n => r04Right n l) := by
  refine Tot.of_eq 1 ?_
  simp only [r04RightEq]
  refine Tot.bind ⟨_, mayEv l (by omega)⟩ fun x => ?_
  by_cases h3 : l.length < 3
  · have h3' : ((l.length : Nat) : Int) < 3 := by omega
    simp only [br_pos h3']
    exact Tot.pure _
  · have h3' : ¬ ((l.length : Nat) : Int) < 3 := by omega
    simp only [br_neg h3']
    refine Tot.br (Tot.pure _) (Tot.br (Tot.pure _) ?_)
    refine TotP.tot (P := fun _ => True) (TotP.bindP (rightL6 l hb l.length 0 (by omega)) fun r hr => ?_)
    rcases hr with rfl | rfl
    · refine TotP.bind ?_ fun x => TotP.pure trivial
      refine Tot.of_eq 1 ?_
      simp only [r04Area2Eq]
      exact Tot.bind (area2L3 l hb (by omega) (l.length - 1) 1 0 (by omega) (Nat.le_refl _)) fun x => Tot.pure _
    · exact TotP.pure trivial
end Go.Hl
