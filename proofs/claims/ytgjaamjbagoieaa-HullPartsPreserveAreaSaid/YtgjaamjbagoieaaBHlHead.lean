import Derived.Test.YtgjaamjbagoieaaBHlDec2
import Derived.Test.YtgjaamjbagoieaaBHuChk
set_option linter.unusedVariables false
set_option linter.unusedSimpArgs false
set_option linter.unnecessarySimpa false
/-
  HULL: the fixed examples, and what fits.
-/
namespace Go.Hl
open Go Go.Am Go.Proofs Go.Hu

def okP (p : Pt) : Bool := decide (-439400000 ≤ p.1) && (decide (p.1 ≤ 439400000) && (decide (-439400000 ≤ p.2) && decide (p.2 ≤ 439400000)))
theorem okP_bd {p : Pt} (h : okP p = true) : Bd p := by
  simp only [okP, Bool.and_eq_true, decide_eq_true_eq] at h
  exact ⟨by omega, by omega⟩
theorem bd_of {l : List Pt} (h : l.all okP = true) : ∀ x ∈ l, Bd x := fun x hx => okP_bd (List.all_eq_true.1 h x hx)
theorem mayL3 (l : List Pt) (hb : l.length ≤ 9223372036854775807) : ∀ (r : List Pt) (i : Nat), l.drop i = r → i ≤ l.length →
    Ev (fun n => r04MayL3 n ((l, (439400000, (((i : Nat) : Int), ()))), ())) (if r.all okP = true then .inl ((), ()) else .inr ((false, ()), ())) := by
  intro r
  induction r with
  | nil =>
    intro i h1 hi
    have := gdrop_nil h1
    refine Ev.of_eq 1 ?_
    simp (disch := omega) only [r04MayL3Eq, br_neg]
    exact (Ev.pure _).congr (by simp)
  | cons x r ih =>
    intro i h1 hi
    obtain ⟨g1, g2, g3⟩ := gdrop h1
    have hw : IntKind.i64.wrap (0 - 439400000) = -439400000 := by decide
    rw [List.all_cons]
    refine Ev.of_eq 1 ?_
    simp (disch := omega) only [r04MayL3Eq, br_pos, Int.toNat_natCast, g1, Option.bind_some, hw, wr1]
    unfold okP
    by_cases c1 : x.1 < -439400000
    · simp only [br_pos c1]
      exact (Ev.pure _).congr (by rw [decide_eq_false (by omega)]; rfl)
    by_cases c2 : 439400000 < x.1
    · simp only [br_neg c1, br_pos c2]
      exact (Ev.pure _).congr (by rw [decide_eq_true (show (-439400000 : Int) ≤ x.1 by omega), decide_eq_false (by omega)]; rfl)
    by_cases c3 : x.2 < -439400000
    · simp only [br_neg c1, br_neg c2, br_pos c3]
      exact (Ev.pure _).congr (by rw [decide_eq_true (show (-439400000 : Int) ≤ x.1 by omega), decide_eq_true (show x.1 ≤ (439400000 : Int) by omega), decide_eq_false (show ¬ (-439400000 : Int) ≤ x.2 by omega)]; rfl)
    by_cases c4 : 439400000 < x.2
    · simp only [br_neg c1, br_neg c2, br_neg c3, br_pos c4]
      exact (Ev.pure _).congr (by rw [decide_eq_true (show (-439400000 : Int) ≤ x.1 by omega), decide_eq_true (show x.1 ≤ (439400000 : Int) by omega), decide_eq_true (show (-439400000 : Int) ≤ x.2 by omega), decide_eq_false (show ¬ x.2 ≤ (439400000 : Int) by omega)]; rfl)
    simp only [br_neg c1, br_neg c2, br_neg c3, br_neg c4]
    refine (ih (i + 1) g2 (by omega)).congr ?_
    rw [decide_eq_true (show (-439400000 : Int) ≤ x.1 by omega), decide_eq_true (show x.1 ≤ (439400000 : Int) by omega), decide_eq_true (show (-439400000 : Int) ≤ x.2 by omega), decide_eq_true (show x.2 ≤ (439400000 : Int) by omega)]
    rfl
theorem mayEv (l : List Pt) (hb : l.length ≤ 9223372036854775807) : Ev (fun n => r04May n l) (l.all okP) := by
  refine Ev.of_eq 1 ?_
  simp only [r04MayEq]
  refine Ev.bind (mayL3 l hb l 0 rfl (Nat.zero_le _)) ?_
  cases hc : l.all okP with
  | true => exact Ev.pure _
  | false => exact Ev.pure _
def fitB (l : List Pt) : Bool := l.all okP && decide (l.length ≤ 40)
theorem fitsEv (l : List Pt) (hb : l.length ≤ 9223372036854775807) : Ev (fun n => l04Fits n l) (fitB l) := by
  refine Ev.of_eq 1 ?_
  simp only [l04FitsEq]
  refine Ev.bind (mayEv l hb) ?_
  unfold fitB
  by_cases h : l.length ≤ 40
  · have h' : ((l.length : Nat) : Int) ≤ 40 := by omega
    simp only [br_pos h']
    exact (Ev.pure _).congr (by rw [decide_eq_true h, Bool.and_true])
  · have h' : ¬ ((l.length : Nat) : Int) ≤ 40 := by omega
    simp only [br_neg h']
    exact (Ev.pure _).congr (by rw [decide_eq_false h, Bool.and_false])
theorem fit_spec {l : List Pt} (h : fitB l = true) : l.length ≤ 40 ∧ ∀ x ∈ l, Bd x := by
  unfold fitB at h
  simp only [Bool.and_eq_true, decide_eq_true_eq] at h
  exact ⟨h.2, bd_of h.1⟩

theorem sameAllL4 (a b : List (List Pt)) (hl : a.length = b.length) (hb : a.length < 1000000000) (ha : ∀ x ∈ a, x.length < 1000000000) : ∀ (ra rb : List (List Pt)) (i : Nat), a.drop i = ra → b.drop i = rb → i ≤ a.length →
    Ev (fun n => r04SameAllL4 n ((a, (b, (((i : Nat) : Int), ()))), ())) (if ra = rb then .inl ((), ()) else .inr ((false, ()), ())) := by
  intro ra
  induction ra with
  | nil =>
    intro rb i h1 h2 hi
    have := gdrop_nil h1
    have hrb : rb = [] := by rw [← h2]; exact List.drop_eq_nil_of_le (by omega)
    rw [if_pos hrb.symm]
    refine Ev.of_eq 1 ?_
    simp (disch := omega) only [r04SameAllL4Eq, br_neg]
    exact Ev.pure _
  | cons x ra ih =>
    intro rb i h1 h2 hi
    obtain ⟨g1, g2, g3⟩ := gdrop h1
    obtain ⟨y, rb', rfl⟩ : ∃ y rb', rb = y :: rb' := by
      cases rb with
      | nil => have := gdrop_nil h2; omega
      | cons y rb' => exact ⟨y, rb', rfl⟩
    obtain ⟨k1, k2, k3⟩ := gdrop h2
    refine Ev.of_eq 1 ?_
    simp (disch := omega) only [r04SameAllL4Eq, br_pos, Int.toNat_natCast, g1, k1, Option.bind_some, wr1]
    refine Ev.bind (sameEv x y (ha x (List.mem_of_getElem? g1))) ?_
    by_cases hxy : x = y
    · rw [decide_eq_true hxy]
      simp only [Bool.not_true, br_f]
      refine (ih rb' (i + 1) g2 k2 (by omega)).congr ?_
      by_cases hr : ra = rb'
      · rw [if_pos hr, if_pos (by rw [hxy, hr])]
      · rw [if_neg hr, if_neg (fun e => hr (List.cons.inj e).2)]
    · rw [decide_eq_false hxy]
      simp only [Bool.not_false, br_t]
      exact (Ev.pure _).congr (by rw [if_neg (fun e => hxy (List.cons.inj e).1)])
theorem sameAllEv (a b : List (List Pt)) (hb : a.length < 1000000000) (ha : ∀ x ∈ a, x.length < 1000000000) : Ev (fun n => r04SameAll n a b) (decide (a = b)) := by
  refine Ev.of_eq 1 ?_
  by_cases hl : a.length = b.length
  · have h1 : ((a.length : Nat) : Int) = ((b.length : Nat) : Int) := by omega
    simp only [r04SameAllEq, nbr_pos h1]
    refine Ev.bind (sameAllL4 a b hl hb ha a b 0 rfl rfl (Nat.zero_le _)) ?_
    by_cases h : a = b
    · rw [if_pos h, decide_eq_true h]; exact Ev.pure _
    · rw [if_neg h, decide_eq_false h]; exact Ev.pure _
  · have h1 : ¬ ((a.length : Nat) : Int) = ((b.length : Nat) : Int) := by omega
    simp only [r04SameAllEq, nbr_neg h1]
    exact (Ev.pure _).congr (decide_eq_false (fun e => hl (by rw [e]))).symm

theorem headEv : Ev (fun n => l04Head n) true := by
  refine Ev.of_eq 1 ?_
  simp only [l04HeadEq]
  have r1 : hullRes [(0, 0), (4, 0), (2, 1), (4, 4), (0, 4), (2, 0)] = ([(0, 0), (4, 0), (4, 4), (0, 4)], true) := hullRes_of (by decide +kernel)
  have r2 : hullRes [(0, 0), (1, 1), (2, 2)] = ([], false) := hullRes_line (fun a b c ha hb hc => by
    simp only [List.mem_cons, List.not_mem_nil, or_false] at ha hb hc
    rcases ha with rfl | rfl | rfl <;> rcases hb with rfl | rfl | rfl <;> rcases hc with rfl | rfl | rfl <;> rfl)
  have d1 : decomp [(0, 0), (4, 0), (4, 4), (2, 1)] = [[(2, 1), (0, 0), (4, 0)], [(4, 0), (4, 4), (2, 1)]] := by decide +kernel
  have d2 : decomp [(0, 0), (4, 0), (4, 4), (0, 4)] = [[(0, 0), (4, 0), (4, 4), (0, 4)]] := by decide +kernel
  have v1 : convexB [(0, 0), (4, 0), (4, 4), (0, 4)] = true := by decide +kernel
  have v2 : convexB [(0, 0), (4, 0), (4, 4), (2, 1)] = false := by decide +kernel
  refine Ev.bind (hullEv _ (by decide) (bd_of (by decide))) ?_
  rw [r1]
  refine Ev.bind (hullEv _ (by decide) (bd_of (by decide))) ?_
  rw [r2]
  refine Ev.bind (sameEv _ _ (by decide)) ?_
  refine Ev.bind (decompEv _ (by decide) (bd_of (by decide))) ?_
  rw [d1]
  refine Ev.bind (sameAllEv _ _ (by decide) (by decide)) ?_
  refine Ev.bind (decompEv _ (by decide) (bd_of (by decide))) ?_
  rw [d2]
  refine Ev.bind (sameAllEv _ _ (by decide) (by decide)) ?_
  simp only [br_t, Bool.not_false]
  have z : (([] : List Pt).length : Int) = 0 := rfl
  simp only [br_pos z, decide_true, br_t]
  refine Ev.bind (isConvexEv _ (by decide) (bd_of (by decide))) ?_
  rw [v1]
  simp only [br_t]
  refine Ev.bind (isConvexEv _ (by decide) (bd_of (by decide))) ?_
  rw [v2]
  simp only [Bool.not_false, br_t]
  refine Ev.bind (x := false) (Ev.of_eq 1 ?_) ?_
  · simp only [hullIsConvexv2Eq]; exact Ev.pure _
  · exact Ev.pure _
end Go.Hl
