import Derived.Test.YtgjaamjbagoieaaAmD
import Derived.SizedLaws
set_option linter.unusedVariables false
set_option linter.unusedSimpArgs false
set_option linter.unnecessarySimpa false
/-
  THE ABSTRACT MACHINE: a law, from its arguments, where their sizes matter.
-/
namespace Go.Am
open Go Go.RowKit Go.ChangeShapes Go.WideShapes
theorem law_contractR {X : Ext} (hX : ProgOk X) (hS : SpecOk X) (hH : SpecHOk X) (hl : laidOutB X.P = true) {g : FuncId} {f : Func} {s : ChangeSpec} {apart fresh handsOn again : Bool} {tb : TypeId} {τs : List Ty}
    (hv : s.vars = []) (hts : (f.params.toList.all fun t => X.P.readableRec t && decide (t < X.P.types.size)) = true) (hr : f.resultTypes = #[tb]) (htb : X.P.underlying tb = some .bool)
    (hτ : f.params.toList.mapM (tyOf X.P tdepth) = some τs) (hin : injRet X g .bool true = .bool true)
    {H : Type} {enc : TypeId × Value → H} {W : World} {base : Nat} {args : Array Value} {ds gs : List (DataW H)} {before : List MemPlace}
    (hval : ∀ (j : Nat) t v, f.params[j]? = some t → args[j]? = some v → Value.okWide X.P W .any base t v)
    (hW : DataW.Whole enc X.P f.params.toList s.vars apart W args.toList ds gs before) (hG : GlobOk X (snap W))
    (hs : ds.length = f.params.size → s.fn H ds = { results := [.lit (.bool true)], args := ds })
    (hrun : ∀ y : HRow τs, HRow.wf τs y → RepL (snap W) nowhere nowhere (HRow.avs X.P f.params.toList τs y) args.toList → ∃ n, (run X n).callT g .bool (HRow.avs X.P f.params.toList τs y) = some true) :
    Calls X.P g args W fun e W' => ∃ v, e = .returned v ∧ s.post enc X.P f apart fresh handsOn again W args v W' := by
  obtain ⟨p, q, h1, h2, h3, h4, h5⟩ := id hW
  obtain ⟨hgs, _⟩ := trodVars_none (hv ▸ h2)
  obtain ⟨y, y1, y2⟩ := args_of (r := .any) (base := base) hl hτ (fun t ht => by
    rw [List.all_eq_true] at hts
    have := hts t ht
    simp only [Bool.and_eq_true, decide_eq_true_eq] at this
    exact this.2) (fun j t v ht hv' => hval j t v (by simpa using ht) (by simpa using hv')) h1
  obtain ⟨n, hn⟩ := hrun y y1 y2
  obtain ⟨fd, c, k1, k2, k3⟩ := (run_ok hX hS hH n).callT g .bool _ _ hn (closed_avs _) (snap W) W _ (snap_ok W) hG y2
  have hlen : ds.length = f.params.size := by
    have : ∀ {ts : List TypeId} {vs : List Value} {ds : List (DataW H)} {ps : List MemPlace}, DataW.TrodAll enc X.P W 0 (fun _ => true) true ts vs ds ps → ds.length = ts.length := by
      intro ts
      induction ts with
      | nil => intro vs ds ps h; obtain ⟨rfl, rfl, _⟩ := trodAll_nil h; rfl
      | cons t ts ih =>
        intro vs ds ps h
        obtain ⟨_, _, _, _, _, _, rfl, rfl, _, _, h⟩ := trodAll_cons h
        simp [ih h]
    simpa using this h1
  refine (callsIn_wide.1 k3).mono fun e W' he => ?_
  cases e with
  | returned v =>
    obtain ⟨T', K, _, hrep⟩ := he
    rw [hin] at hrep
    cases hrep
    subst hgs
    exact ⟨_, rfl, law_post hl hW hv hts hr htb (hs hlen) K.below⟩
  | panicked ch => exact he.elim
  | outgrown => exact he.elim

theorem reach_slice {H : Type} {enc : TypeId × Value → H} {P : Program} {W : World} {t e : TypeId} {ts us : List TypeId} {v : Value} {vs : List Value} {ds gs : List (DataW H)} {ps : List MemPlace} (hu : P.underlying t = some (.slice e))
    (h : DataW.TrodAll enc P W 0 (fun _ => true) true (t :: ts) (v :: vs) ds ps) (hz : (DataW.weightsEach P (t :: ts ++ us) (ds ++ gs)).all (· ≤ reachBytes) = true) {F : Fix} {σ lm : Nat → Option Nat} {ow : Own} {o : Bool} {τ : Ty} {xs : List τ.den} (hr : Rep F σ lm ow (.slice o τ xs) v) :
    xs.length * P.bytesOf e ≤ reachBytes := by
  cases hr with
  | slice _ _ _ _ a cap hc hrow ho =>
  obtain ⟨v', vs', d, ds', p1, p2, e1, e2, e3, h1, h2⟩ := trodAll_cons h
  cases e1
  subst e2
  obtain ⟨fuel, h1⟩ := h1
  rcases DataW.trod_slice hu h1 with ⟨k, _⟩ | ⟨a', len, cap', elems, rest, n, _, k, k2, _, _, _, hel, _⟩
  · have : xs.length = 0 := by
      have := congrArg (fun l : List Value => l.head?) k
      simp only [Value.cells, List.head?_cons, Option.some.injEq, Value.slice.injEq] at this
      exact this.2.1
    rw [this, Nat.zero_mul]; exact Nat.zero_le _
  · have hlen : xs.length = len := by
      have := congrArg (fun l : List Value => l.head?) k
      simp only [Value.cells, List.head?_cons, Option.some.injEq, Value.slice.injEq] at this
      exact this.2.1
    have hd : (d :: ds' ++ gs)[0]? = some (.slice (elems.map (·.1)) (rest.map (·.1))) := by
      have := congrArg Prod.fst k2
      simp only at this
      simp [this]
    have := sized_slice hz (j := 0) (t := t) (e := e) (by simp) hd hu
    rw [List.length_map, hel, ← hlen] at this
    exact Nat.le_trans (Nat.mul_le_mul_right _ (Nat.le_add_right _ _)) this
end Go.Am
