/-
  No cell of these rows narrows 'for every input' (looked for: loops, veiled, ifaces, maps, wideKeys, modest, calm, conditions, laid).
  DERIVED. THE GIVEN ROWS OF THIS SEAT. 6 by the template 'for every input the law returns true; each argument reads behind the call as it read before'; 0 by the template 'total and deterministic' (their statements: YtlgocmlcniindaaTotals.lean).
  GIVEN WITH THE SEED: the statements are not yours to turn. If you find one false, say at which input.
  Laid BY PROGRAM, IN A SANDBOX (cutbox-rows.mjs): the forced cells as the released guide's own fill.sh prints them over the translation b6c878b206ed43a6… (all of the seat's roots in one cut). By AI agents, Wed Nov 11 2026. No macro, syntax, notation, axiom, sorry.
-/
import Derived.Test.YtlgocmlcniindaaChecked
import GoSem.Claim
import GoSem.ClaimJoined
import GoSem.ClaimMapViews
import Derived.JoinedTies
import Derived.KernelRfl
namespace Go.Proofs.Ytlgocmlcniindaa
/- THE CELL 'sum', in the pinned program and in every row, IS THE sha256 OF THE DUMP (.gsa) THAT YtlgocmlcniindaaProg.lean LOADS. Nothing in Lean hashes anything: it is a label: what it is worth is what the hold of that sum in a sandbox is worth. -/
noncomputable def Try.pinned : Pinned := { name := "ytlgocmlcniindaa", sum := "b6c878b206ed43a6f77f21b81d16d4b01ffdb30c7186fdab6c0474f416b7a329", checked := Try.checked }
namespace Rows
def none {H : Type} : Left H := { results := [], args := [] }

/-- 'ambidexterlaw06.SweepMatchesReference': WHATEVER THE INPUT: true; the input reads as it did. -/
def sweepMatchesReferenceSpec : ChangeSpec := { name := "sweepMatchesReference", fn := fun _ => fun
  | [d1, d2, d3] => { results := [.lit (.bool true)], args := [d1, d2, d3] }
  | _ => none }
def sweepMatchesReferenceRow : OpenClaim := { program := "ytlgocmlcniindaa", sum := "b6c878b206ed43a6f77f21b81d16d4b01ffdb30c7186fdab6c0474f416b7a329", func := "ambidexter/ambidexterlaw06.SweepMatchesReference", spec := "sweepMatchesReference", unfollowed := true, recurses := true, apart := false }
def SweepMatchesReferenceSaid : Prop := sweepMatchesReferenceRow.holds Try.pinned (OpenSpec.ofChange sweepMatchesReferenceSpec)

/-- ITS FALSE NEIGHBOUR: 'it returns false'. Refute it at one input. -/
def sweepMatchesReferenceWrong : ChangeSpec := { name := "sweepMatchesReference", fn := fun _ => fun
  | [d1, d2, d3] => { results := [.lit (.bool false)], args := [d1, d2, d3] }
  | _ => none }
def SweepMatchesReferenceWrongFalsely : Prop := sweepMatchesReferenceRow.holds Try.pinned (OpenSpec.ofChange sweepMatchesReferenceWrong)

/-- 'ambidexterlaw06.SweepEnds': WHATEVER THE INPUT: true; the input reads as it did. -/
def sweepEndsSpec : ChangeSpec := { name := "sweepEnds", fn := fun _ => fun
  | [d1, d2, d3] => { results := [.lit (.bool true)], args := [d1, d2, d3] }
  | _ => none }
def sweepEndsRow : OpenClaim := { program := "ytlgocmlcniindaa", sum := "b6c878b206ed43a6f77f21b81d16d4b01ffdb30c7186fdab6c0474f416b7a329", func := "ambidexter/ambidexterlaw06.SweepEnds", spec := "sweepEnds", unfollowed := true, recurses := true, apart := false }
def SweepEndsSaid : Prop := sweepEndsRow.holds Try.pinned (OpenSpec.ofChange sweepEndsSpec)

/-- ITS FALSE NEIGHBOUR: 'it returns false'. Refute it at one input. -/
def sweepEndsWrong : ChangeSpec := { name := "sweepEnds", fn := fun _ => fun
  | [d1, d2, d3] => { results := [.lit (.bool false)], args := [d1, d2, d3] }
  | _ => none }
def SweepEndsWrongFalsely : Prop := sweepEndsRow.holds Try.pinned (OpenSpec.ofChange sweepEndsWrong)

/-- 'ambidexterlaw06.SweepArc': WHATEVER THE INPUT: true; the input reads as it did. -/
def sweepArcSpec : ChangeSpec := { name := "sweepArc", fn := fun _ => fun
  | [d1, d2, d3, d4, d5] => { results := [.lit (.bool true)], args := [d1, d2, d3, d4, d5] }
  | _ => none }
def sweepArcRow : OpenClaim := { program := "ytlgocmlcniindaa", sum := "b6c878b206ed43a6f77f21b81d16d4b01ffdb30c7186fdab6c0474f416b7a329", func := "ambidexter/ambidexterlaw06.SweepArc", spec := "sweepArc", unfollowed := true, recurses := true, apart := false }
def SweepArcSaid : Prop := sweepArcRow.holds Try.pinned (OpenSpec.ofChange sweepArcSpec)

/-- ITS FALSE NEIGHBOUR: 'it returns false'. Refute it at one input. -/
def sweepArcWrong : ChangeSpec := { name := "sweepArc", fn := fun _ => fun
  | [d1, d2, d3, d4, d5] => { results := [.lit (.bool false)], args := [d1, d2, d3, d4, d5] }
  | _ => none }
def SweepArcWrongFalsely : Prop := sweepArcRow.holds Try.pinned (OpenSpec.ofChange sweepArcWrong)

/-- 'ambidexterlaw06.SweepSymmetric': WHATEVER THE INPUT: true; the input reads as it did. -/
def sweepSymmetricSpec : ChangeSpec := { name := "sweepSymmetric", fn := fun _ => fun
  | [d1, d2, d3, d4] => { results := [.lit (.bool true)], args := [d1, d2, d3, d4] }
  | _ => none }
def sweepSymmetricRow : OpenClaim := { program := "ytlgocmlcniindaa", sum := "b6c878b206ed43a6f77f21b81d16d4b01ffdb30c7186fdab6c0474f416b7a329", func := "ambidexter/ambidexterlaw06.SweepSymmetric", spec := "sweepSymmetric", unfollowed := true, recurses := true, apart := false }
def SweepSymmetricSaid : Prop := sweepSymmetricRow.holds Try.pinned (OpenSpec.ofChange sweepSymmetricSpec)

/-- ITS FALSE NEIGHBOUR: 'it returns false'. Refute it at one input. -/
def sweepSymmetricWrong : ChangeSpec := { name := "sweepSymmetric", fn := fun _ => fun
  | [d1, d2, d3, d4] => { results := [.lit (.bool false)], args := [d1, d2, d3, d4] }
  | _ => none }
def SweepSymmetricWrongFalsely : Prop := sweepSymmetricRow.holds Try.pinned (OpenSpec.ofChange sweepSymmetricWrong)

/-- 'ambidexterlaw06.SweepMonotonic': WHATEVER THE INPUT: true; the input reads as it did. -/
def sweepMonotonicSpec : ChangeSpec := { name := "sweepMonotonic", fn := fun _ => fun
  | [d1, d2, d3, d4] => { results := [.lit (.bool true)], args := [d1, d2, d3, d4] }
  | _ => none }
def sweepMonotonicRow : OpenClaim := { program := "ytlgocmlcniindaa", sum := "b6c878b206ed43a6f77f21b81d16d4b01ffdb30c7186fdab6c0474f416b7a329", func := "ambidexter/ambidexterlaw06.SweepMonotonic", spec := "sweepMonotonic", unfollowed := true, recurses := true, apart := false }
def SweepMonotonicSaid : Prop := sweepMonotonicRow.holds Try.pinned (OpenSpec.ofChange sweepMonotonicSpec)

/-- ITS FALSE NEIGHBOUR: 'it returns false'. Refute it at one input. -/
def sweepMonotonicWrong : ChangeSpec := { name := "sweepMonotonic", fn := fun _ => fun
  | [d1, d2, d3, d4] => { results := [.lit (.bool false)], args := [d1, d2, d3, d4] }
  | _ => none }
def SweepMonotonicWrongFalsely : Prop := sweepMonotonicRow.holds Try.pinned (OpenSpec.ofChange sweepMonotonicWrong)

/-- 'ambidexterlaw06.SweepQuarter': WHATEVER THE INPUT: true; the input reads as it did. -/
def sweepQuarterSpec : ChangeSpec := { name := "sweepQuarter", fn := fun _ => fun
  | [d1, d2, d3] => { results := [.lit (.bool true)], args := [d1, d2, d3] }
  | _ => none }
def sweepQuarterRow : OpenClaim := { program := "ytlgocmlcniindaa", sum := "b6c878b206ed43a6f77f21b81d16d4b01ffdb30c7186fdab6c0474f416b7a329", func := "ambidexter/ambidexterlaw06.SweepQuarter", spec := "sweepQuarter", unfollowed := true, recurses := true, apart := false }
def SweepQuarterSaid : Prop := sweepQuarterRow.holds Try.pinned (OpenSpec.ofChange sweepQuarterSpec)

/-- ITS FALSE NEIGHBOUR: 'it returns false'. Refute it at one input. -/
def sweepQuarterWrong : ChangeSpec := { name := "sweepQuarter", fn := fun _ => fun
  | [d1, d2, d3] => { results := [.lit (.bool false)], args := [d1, d2, d3] }
  | _ => none }
def SweepQuarterWrongFalsely : Prop := sweepQuarterRow.holds Try.pinned (OpenSpec.ofChange sweepQuarterWrong)

/- THE SECOND FORM. 'bulk': how many values and letters a reading holds, each counted each time it is reached (what is shared counts as often as it is met; a slice's spare places count too). A statement '..UptoSaid' is the law's where the arguments, and the package variables that the reading takes, are together of bulk at most 1048576: NARROWER than '..Said'. Prove '..Said' where nothing that the law and all that it calls make is longer than what came in: it says more and counts as full. Else prove '..UptoSaid'. A law counts once. -/
mutual
def uptoBulk {H : Type} : DataW H → Nat
  | .lit (.string bytes) => bytes.length + 1
  | .lit _ => 1
  | .nil => 1
  | .ptr d => uptoBulk d + 1
  | .slice elems spare => uptoBulkAll elems + uptoBulkAll spare + 1
  | .agg parts => uptoBulkAll parts + 1
  | .iface _ d => uptoBulk d + 1
  | .map entries => uptoBulkEntries entries + 1
  | .held _ => 1
def uptoBulkAll {H : Type} : List (DataW H) → Nat
  | [] => 0
  | d :: r => uptoBulk d + uptoBulkAll r
def uptoBulkEntries {H : Type} : List (Lit × DataW H) → Nat
  | [] => 0
  | x :: r => uptoBulkEntry x + uptoBulkEntries r
def uptoBulkEntry {H : Type} : Lit × DataW H → Nat
  | (.string bytes, d) => bytes.length + uptoBulk d + 1
  | (_, d) => uptoBulk d + 1
 end
def uptoSmall : (H : Type) → List (DataW H) → Bool := fun _ ds => decide (uptoBulkAll ds ≤ 1048576)
def OpenSpec.upto (s : _root_.Go.ChangeSpec) : _root_.Go.OpenSpec := { _root_.Go.OpenSpec.ofChange s with cond := some uptoSmall }

/-- 'ambidexterlaw06.SweepMatchesReference', WHERE WHAT IT READS IS OF BULK AT MOST 1048576: true; the input reads as it did. -/
def sweepMatchesReferenceUptoRow : OpenClaim := { program := "ytlgocmlcniindaa", sum := "b6c878b206ed43a6f77f21b81d16d4b01ffdb30c7186fdab6c0474f416b7a329", func := "ambidexter/ambidexterlaw06.SweepMatchesReference", spec := "sweepMatchesReference", unfollowed := true, recurses := true, apart := false, narrowed := true }
def SweepMatchesReferenceUptoSaid : Prop := sweepMatchesReferenceUptoRow.holds Try.pinned (OpenSpec.upto sweepMatchesReferenceSpec)

/-- 'ambidexterlaw06.SweepEnds', WHERE WHAT IT READS IS OF BULK AT MOST 1048576: true; the input reads as it did. -/
def sweepEndsUptoRow : OpenClaim := { program := "ytlgocmlcniindaa", sum := "b6c878b206ed43a6f77f21b81d16d4b01ffdb30c7186fdab6c0474f416b7a329", func := "ambidexter/ambidexterlaw06.SweepEnds", spec := "sweepEnds", unfollowed := true, recurses := true, apart := false, narrowed := true }
def SweepEndsUptoSaid : Prop := sweepEndsUptoRow.holds Try.pinned (OpenSpec.upto sweepEndsSpec)

/-- 'ambidexterlaw06.SweepArc', WHERE WHAT IT READS IS OF BULK AT MOST 1048576: true; the input reads as it did. -/
def sweepArcUptoRow : OpenClaim := { program := "ytlgocmlcniindaa", sum := "b6c878b206ed43a6f77f21b81d16d4b01ffdb30c7186fdab6c0474f416b7a329", func := "ambidexter/ambidexterlaw06.SweepArc", spec := "sweepArc", unfollowed := true, recurses := true, apart := false, narrowed := true }
def SweepArcUptoSaid : Prop := sweepArcUptoRow.holds Try.pinned (OpenSpec.upto sweepArcSpec)

/-- 'ambidexterlaw06.SweepSymmetric', WHERE WHAT IT READS IS OF BULK AT MOST 1048576: true; the input reads as it did. -/
def sweepSymmetricUptoRow : OpenClaim := { program := "ytlgocmlcniindaa", sum := "b6c878b206ed43a6f77f21b81d16d4b01ffdb30c7186fdab6c0474f416b7a329", func := "ambidexter/ambidexterlaw06.SweepSymmetric", spec := "sweepSymmetric", unfollowed := true, recurses := true, apart := false, narrowed := true }
def SweepSymmetricUptoSaid : Prop := sweepSymmetricUptoRow.holds Try.pinned (OpenSpec.upto sweepSymmetricSpec)

/-- 'ambidexterlaw06.SweepMonotonic', WHERE WHAT IT READS IS OF BULK AT MOST 1048576: true; the input reads as it did. -/
def sweepMonotonicUptoRow : OpenClaim := { program := "ytlgocmlcniindaa", sum := "b6c878b206ed43a6f77f21b81d16d4b01ffdb30c7186fdab6c0474f416b7a329", func := "ambidexter/ambidexterlaw06.SweepMonotonic", spec := "sweepMonotonic", unfollowed := true, recurses := true, apart := false, narrowed := true }
def SweepMonotonicUptoSaid : Prop := sweepMonotonicUptoRow.holds Try.pinned (OpenSpec.upto sweepMonotonicSpec)

/-- 'ambidexterlaw06.SweepQuarter', WHERE WHAT IT READS IS OF BULK AT MOST 1048576: true; the input reads as it did. -/
def sweepQuarterUptoRow : OpenClaim := { program := "ytlgocmlcniindaa", sum := "b6c878b206ed43a6f77f21b81d16d4b01ffdb30c7186fdab6c0474f416b7a329", func := "ambidexter/ambidexterlaw06.SweepQuarter", spec := "sweepQuarter", unfollowed := true, recurses := true, apart := false, narrowed := true }
def SweepQuarterUptoSaid : Prop := sweepQuarterUptoRow.holds Try.pinned (OpenSpec.upto sweepQuarterSpec)

end Rows
end Go.Proofs.Ytlgocmlcniindaa
