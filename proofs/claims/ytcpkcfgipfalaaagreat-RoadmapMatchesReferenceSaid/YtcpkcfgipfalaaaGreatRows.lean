/-
  No cell of these rows narrows 'for every input' (looked for: loops, veiled, ifaces, maps, wideKeys, modest, calm, conditions, laid).
  DERIVED. THE GIVEN ROWS OF THIS SEAT. 6 by the template 'for every input the law returns true; each argument reads behind the call as it read before'; 0 by the template 'total and deterministic' (their statements: YtcpkcfgipfalaaaGreatTotals.lean).
  GIVEN WITH THE SEED: the statements are not yours to turn. If you find one false, say at which input.
  Laid BY PROGRAM, IN A SANDBOX (cutbox-rows.mjs): the forced cells as the released guide's own fill.sh prints them over the translation 9040e2d39c7892ec… (all of the seat's roots in one cut). By AI agents, Wed Nov 11 2026. No macro, syntax, notation, axiom, sorry.
-/
import Derived.Test.YtcpkcfgipfalaaaGreatChecked
import GoSem.Claim
import GoSem.ClaimJoined
import GoSem.ClaimMapViews
import Derived.JoinedTies
import Derived.KernelRfl
namespace Go.Proofs.YtcpkcfgipfalaaaGreat
/- THE CELL 'sum', in the pinned program and in every row, IS THE sha256 OF THE DUMP (.gsa) THAT YtcpkcfgipfalaaaGreatProg.lean LOADS. Nothing in Lean hashes anything: it is a label: what it is worth is what the hold of that sum in a sandbox is worth. -/
noncomputable def Tryz.pinned : Pinned := { name := "ytcpkcfgipfalaaagreat", sum := "9040e2d39c7892ec5372c2ec61809b2e25b92e6612385a067d6b6962514a812b", checked := Tryz.checked }
namespace Rows
def none {H : Type} : Left H := { results := [], args := [] }

/-- 'ambidexterlaw17.RoadmapMatchesReference': WHATEVER THE INPUT: true; the input reads as it did. -/
def roadmapMatchesReferenceSpec : ChangeSpec := { name := "roadmapMatchesReference", fn := fun _ => fun
  | [d1, d2, d3, d4, d5] => { results := [.lit (.bool true)], args := [d1, d2, d3, d4, d5] }
  | _ => none }
def roadmapMatchesReferenceRow : OpenClaim := { program := "ytcpkcfgipfalaaagreat", sum := "9040e2d39c7892ec5372c2ec61809b2e25b92e6612385a067d6b6962514a812b", func := "ambidexter/ambidexterlaw17.RoadmapMatchesReference", spec := "roadmapMatchesReference", unfollowed := true, recurses := true, plainKeys := false, apart := false }
def RoadmapMatchesReferenceSaid : Prop := roadmapMatchesReferenceRow.holds Tryz.pinned (OpenSpec.ofChange roadmapMatchesReferenceSpec)

/-- ITS FALSE NEIGHBOUR: 'it returns false'. Refute it at one input. -/
def roadmapMatchesReferenceWrong : ChangeSpec := { name := "roadmapMatchesReference", fn := fun _ => fun
  | [d1, d2, d3, d4, d5] => { results := [.lit (.bool false)], args := [d1, d2, d3, d4, d5] }
  | _ => none }
def RoadmapMatchesReferenceWrongFalsely : Prop := roadmapMatchesReferenceRow.holds Tryz.pinned (OpenSpec.ofChange roadmapMatchesReferenceWrong)

/-- 'ambidexterlaw17.RoadmapEdgesFree': WHATEVER THE INPUT: true; the input reads as it did. -/
def roadmapEdgesFreeSpec : ChangeSpec := { name := "roadmapEdgesFree", fn := fun _ => fun
  | [d1, d2, d3, d4] => { results := [.lit (.bool true)], args := [d1, d2, d3, d4] }
  | _ => none }
def roadmapEdgesFreeRow : OpenClaim := { program := "ytcpkcfgipfalaaagreat", sum := "9040e2d39c7892ec5372c2ec61809b2e25b92e6612385a067d6b6962514a812b", func := "ambidexter/ambidexterlaw17.RoadmapEdgesFree", spec := "roadmapEdgesFree", unfollowed := true, recurses := true, plainKeys := false, apart := false }
def RoadmapEdgesFreeSaid : Prop := roadmapEdgesFreeRow.holds Tryz.pinned (OpenSpec.ofChange roadmapEdgesFreeSpec)

/-- ITS FALSE NEIGHBOUR: 'it returns false'. Refute it at one input. -/
def roadmapEdgesFreeWrong : ChangeSpec := { name := "roadmapEdgesFree", fn := fun _ => fun
  | [d1, d2, d3, d4] => { results := [.lit (.bool false)], args := [d1, d2, d3, d4] }
  | _ => none }
def RoadmapEdgesFreeWrongFalsely : Prop := roadmapEdgesFreeRow.holds Tryz.pinned (OpenSpec.ofChange roadmapEdgesFreeWrong)

/-- 'ambidexterlaw17.RoadmapComplete': WHATEVER THE INPUT: true; the input reads as it did. -/
def roadmapCompleteSpec : ChangeSpec := { name := "roadmapComplete", fn := fun _ => fun
  | [d1, d2, d3, d4, d5] => { results := [.lit (.bool true)], args := [d1, d2, d3, d4, d5] }
  | _ => none }
def roadmapCompleteRow : OpenClaim := { program := "ytcpkcfgipfalaaagreat", sum := "9040e2d39c7892ec5372c2ec61809b2e25b92e6612385a067d6b6962514a812b", func := "ambidexter/ambidexterlaw17.RoadmapComplete", spec := "roadmapComplete", unfollowed := true, recurses := true, plainKeys := false, apart := false }
def RoadmapCompleteSaid : Prop := roadmapCompleteRow.holds Tryz.pinned (OpenSpec.ofChange roadmapCompleteSpec)

/-- ITS FALSE NEIGHBOUR: 'it returns false'. Refute it at one input. -/
def roadmapCompleteWrong : ChangeSpec := { name := "roadmapComplete", fn := fun _ => fun
  | [d1, d2, d3, d4, d5] => { results := [.lit (.bool false)], args := [d1, d2, d3, d4, d5] }
  | _ => none }
def RoadmapCompleteWrongFalsely : Prop := roadmapCompleteRow.holds Tryz.pinned (OpenSpec.ofChange roadmapCompleteWrong)

/-- 'ambidexterlaw17.RoadmapShortest': WHATEVER THE INPUT: true; the input reads as it did. -/
def roadmapShortestSpec : ChangeSpec := { name := "roadmapShortest", fn := fun _ => fun
  | [d1, d2, d3, d4, d5] => { results := [.lit (.bool true)], args := [d1, d2, d3, d4, d5] }
  | _ => none }
def roadmapShortestRow : OpenClaim := { program := "ytcpkcfgipfalaaagreat", sum := "9040e2d39c7892ec5372c2ec61809b2e25b92e6612385a067d6b6962514a812b", func := "ambidexter/ambidexterlaw17.RoadmapShortest", spec := "roadmapShortest", unfollowed := true, recurses := true, plainKeys := false, apart := false }
def RoadmapShortestSaid : Prop := roadmapShortestRow.holds Tryz.pinned (OpenSpec.ofChange roadmapShortestSpec)

/-- ITS FALSE NEIGHBOUR: 'it returns false'. Refute it at one input. -/
def roadmapShortestWrong : ChangeSpec := { name := "roadmapShortest", fn := fun _ => fun
  | [d1, d2, d3, d4, d5] => { results := [.lit (.bool false)], args := [d1, d2, d3, d4, d5] }
  | _ => none }
def RoadmapShortestWrongFalsely : Prop := roadmapShortestRow.holds Tryz.pinned (OpenSpec.ofChange roadmapShortestWrong)

/-- 'ambidexterlaw17.RoadmapPrefix': WHATEVER THE INPUT: true; the input reads as it did. -/
def roadmapPrefixSpec : ChangeSpec := { name := "roadmapPrefix", fn := fun _ => fun
  | [d1, d2, d3, d4, d5, d6] => { results := [.lit (.bool true)], args := [d1, d2, d3, d4, d5, d6] }
  | _ => none }
def roadmapPrefixRow : OpenClaim := { program := "ytcpkcfgipfalaaagreat", sum := "9040e2d39c7892ec5372c2ec61809b2e25b92e6612385a067d6b6962514a812b", func := "ambidexter/ambidexterlaw17.RoadmapPrefix", spec := "roadmapPrefix", unfollowed := true, recurses := true, plainKeys := false, apart := false }
def RoadmapPrefixSaid : Prop := roadmapPrefixRow.holds Tryz.pinned (OpenSpec.ofChange roadmapPrefixSpec)

/-- ITS FALSE NEIGHBOUR: 'it returns false'. Refute it at one input. -/
def roadmapPrefixWrong : ChangeSpec := { name := "roadmapPrefix", fn := fun _ => fun
  | [d1, d2, d3, d4, d5, d6] => { results := [.lit (.bool false)], args := [d1, d2, d3, d4, d5, d6] }
  | _ => none }
def RoadmapPrefixWrongFalsely : Prop := roadmapPrefixRow.holds Tryz.pinned (OpenSpec.ofChange roadmapPrefixWrong)

/-- 'ambidexterlaw17.RoadmapPathExecutes': WHATEVER THE INPUT: true; the input reads as it did. -/
def roadmapPathExecutesSpec : ChangeSpec := { name := "roadmapPathExecutes", fn := fun _ => fun
  | [d1, d2, d3, d4, d5] => { results := [.lit (.bool true)], args := [d1, d2, d3, d4, d5] }
  | _ => none }
def roadmapPathExecutesRow : OpenClaim := { program := "ytcpkcfgipfalaaagreat", sum := "9040e2d39c7892ec5372c2ec61809b2e25b92e6612385a067d6b6962514a812b", func := "ambidexter/ambidexterlaw17.RoadmapPathExecutes", spec := "roadmapPathExecutes", unfollowed := true, recurses := true, plainKeys := false, apart := false }
def RoadmapPathExecutesSaid : Prop := roadmapPathExecutesRow.holds Tryz.pinned (OpenSpec.ofChange roadmapPathExecutesSpec)

/-- ITS FALSE NEIGHBOUR: 'it returns false'. Refute it at one input. -/
def roadmapPathExecutesWrong : ChangeSpec := { name := "roadmapPathExecutes", fn := fun _ => fun
  | [d1, d2, d3, d4, d5] => { results := [.lit (.bool false)], args := [d1, d2, d3, d4, d5] }
  | _ => none }
def RoadmapPathExecutesWrongFalsely : Prop := roadmapPathExecutesRow.holds Tryz.pinned (OpenSpec.ofChange roadmapPathExecutesWrong)

/- THE SECOND FORM. 'bulk': how many values and letters a reading holds, each counted each time it is reached (what is shared counts as often as it is met; a slice's spare places count too). A statement '..UptoSaid' is the law's where the arguments, and the package variables that the reading takes, are together of bulk at most 1048576: NARROWER than '..Said'. Prove '..Said' where nothing that the law and all that it calls make is longer than what came in: it says more and counts as full. Else prove '..UptoSaid'. A law counts once. -/
mutual
def uptoBulk {H : Type} : DataW H → Nat
  | .lit (.string bytes) => bytes.length + 1
  | .lit _ => 1
  | .nil => 1
  | .ptr d => uptoBulk d + 1
  | .slice elems spare => uptoBulkAll elems + uptoBulkAll spare + 1
  | .agg parts => uptoBulkAll parts + 1
  | .iface _ d => uptoBulk d + 1
  | .map entries => uptoBulkEntries entries + 1
  | .held _ => 1
def uptoBulkAll {H : Type} : List (DataW H) → Nat
  | [] => 0
  | d :: r => uptoBulk d + uptoBulkAll r
def uptoBulkEntries {H : Type} : List (Lit × DataW H) → Nat
  | [] => 0
  | x :: r => uptoBulkEntry x + uptoBulkEntries r
def uptoBulkEntry {H : Type} : Lit × DataW H → Nat
  | (.string bytes, d) => bytes.length + uptoBulk d + 1
  | (_, d) => uptoBulk d + 1
 end
def uptoSmall : (H : Type) → List (DataW H) → Bool := fun _ ds => decide (uptoBulkAll ds ≤ 1048576)
def OpenSpec.upto (s : _root_.Go.ChangeSpec) : _root_.Go.OpenSpec := { _root_.Go.OpenSpec.ofChange s with cond := some uptoSmall }

/-- 'ambidexterlaw17.RoadmapMatchesReference', WHERE WHAT IT READS IS OF BULK AT MOST 1048576: true; the input reads as it did. -/
def roadmapMatchesReferenceUptoRow : OpenClaim := { program := "ytcpkcfgipfalaaagreat", sum := "9040e2d39c7892ec5372c2ec61809b2e25b92e6612385a067d6b6962514a812b", func := "ambidexter/ambidexterlaw17.RoadmapMatchesReference", spec := "roadmapMatchesReference", unfollowed := true, recurses := true, plainKeys := false, apart := false, narrowed := true }
def RoadmapMatchesReferenceUptoSaid : Prop := roadmapMatchesReferenceUptoRow.holds Tryz.pinned (OpenSpec.upto roadmapMatchesReferenceSpec)

/-- 'ambidexterlaw17.RoadmapEdgesFree', WHERE WHAT IT READS IS OF BULK AT MOST 1048576: true; the input reads as it did. -/
def roadmapEdgesFreeUptoRow : OpenClaim := { program := "ytcpkcfgipfalaaagreat", sum := "9040e2d39c7892ec5372c2ec61809b2e25b92e6612385a067d6b6962514a812b", func := "ambidexter/ambidexterlaw17.RoadmapEdgesFree", spec := "roadmapEdgesFree", unfollowed := true, recurses := true, plainKeys := false, apart := false, narrowed := true }
def RoadmapEdgesFreeUptoSaid : Prop := roadmapEdgesFreeUptoRow.holds Tryz.pinned (OpenSpec.upto roadmapEdgesFreeSpec)

/-- 'ambidexterlaw17.RoadmapComplete', WHERE WHAT IT READS IS OF BULK AT MOST 1048576: true; the input reads as it did. -/
def roadmapCompleteUptoRow : OpenClaim := { program := "ytcpkcfgipfalaaagreat", sum := "9040e2d39c7892ec5372c2ec61809b2e25b92e6612385a067d6b6962514a812b", func := "ambidexter/ambidexterlaw17.RoadmapComplete", spec := "roadmapComplete", unfollowed := true, recurses := true, plainKeys := false, apart := false, narrowed := true }
def RoadmapCompleteUptoSaid : Prop := roadmapCompleteUptoRow.holds Tryz.pinned (OpenSpec.upto roadmapCompleteSpec)

/-- 'ambidexterlaw17.RoadmapShortest', WHERE WHAT IT READS IS OF BULK AT MOST 1048576: true; the input reads as it did. -/
def roadmapShortestUptoRow : OpenClaim := { program := "ytcpkcfgipfalaaagreat", sum := "9040e2d39c7892ec5372c2ec61809b2e25b92e6612385a067d6b6962514a812b", func := "ambidexter/ambidexterlaw17.RoadmapShortest", spec := "roadmapShortest", unfollowed := true, recurses := true, plainKeys := false, apart := false, narrowed := true }
def RoadmapShortestUptoSaid : Prop := roadmapShortestUptoRow.holds Tryz.pinned (OpenSpec.upto roadmapShortestSpec)

/-- 'ambidexterlaw17.RoadmapPrefix', WHERE WHAT IT READS IS OF BULK AT MOST 1048576: true; the input reads as it did. -/
def roadmapPrefixUptoRow : OpenClaim := { program := "ytcpkcfgipfalaaagreat", sum := "9040e2d39c7892ec5372c2ec61809b2e25b92e6612385a067d6b6962514a812b", func := "ambidexter/ambidexterlaw17.RoadmapPrefix", spec := "roadmapPrefix", unfollowed := true, recurses := true, plainKeys := false, apart := false, narrowed := true }
def RoadmapPrefixUptoSaid : Prop := roadmapPrefixUptoRow.holds Tryz.pinned (OpenSpec.upto roadmapPrefixSpec)

/-- 'ambidexterlaw17.RoadmapPathExecutes', WHERE WHAT IT READS IS OF BULK AT MOST 1048576: true; the input reads as it did. -/
def roadmapPathExecutesUptoRow : OpenClaim := { program := "ytcpkcfgipfalaaagreat", sum := "9040e2d39c7892ec5372c2ec61809b2e25b92e6612385a067d6b6962514a812b", func := "ambidexter/ambidexterlaw17.RoadmapPathExecutes", spec := "roadmapPathExecutes", unfollowed := true, recurses := true, plainKeys := false, apart := false, narrowed := true }
def RoadmapPathExecutesUptoSaid : Prop := roadmapPathExecutesUptoRow.holds Tryz.pinned (OpenSpec.upto roadmapPathExecutesSpec)

end Rows
end Go.Proofs.YtcpkcfgipfalaaaGreat
