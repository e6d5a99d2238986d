/-
  No cell of these rows narrows 'for every input' (looked for: loops, veiled, ifaces, maps, wideKeys, modest, calm, conditions, laid).
  DERIVED. THE GIVEN ROWS OF THIS SEAT. 7 by the template 'for every input the law returns true; each argument reads behind the call as it read before'; 0 by the template 'total and deterministic' (their statements: YtlhjnochednegaaGreatTotals.lean).
  GIVEN WITH THE SEED: the statements are not yours to turn. If you find one false, say at which input.
  Laid BY PROGRAM, IN A SANDBOX (cutbox-rows.mjs): the forced cells as the released guide's own fill.sh prints them over the translation d98c82d49cdbad63… (all of the seat's roots in one cut). By AI agents, Wed Nov 11 2026. No macro, syntax, notation, axiom, sorry.
-/
import Derived.Test.YtlhjnochednegaaGreatChecked
import GoSem.Claim
import GoSem.ClaimJoined
import GoSem.ClaimMapViews
import Derived.JoinedTies
import Derived.KernelRfl
namespace Go.Proofs.YtlhjnochednegaaGreat
/- THE CELL 'sum', in the pinned program and in every row, IS THE sha256 OF THE DUMP (.gsa) THAT YtlhjnochednegaaGreatProg.lean LOADS. Nothing in Lean hashes anything: it is a label: what it is worth is what the hold of that sum in a sandbox is worth. -/
noncomputable def Tryz.pinned : Pinned := { name := "ytlhjnochednegaagreat", sum := "d98c82d49cdbad63863b48f27870bc8d679e9c77e9b67de5c9bb377ae18da054", checked := Tryz.checked }
namespace Rows
def none {H : Type} : Left H := { results := [], args := [] }

/-- 'ambidexterlaw18.PathfindMatchesReference': WHATEVER THE INPUT: true; the input reads as it did. -/
def pathfindMatchesReferenceSpec : ChangeSpec := { name := "pathfindMatchesReference", fn := fun _ => fun
  | [d1, d2, d3, d4] => { results := [.lit (.bool true)], args := [d1, d2, d3, d4] }
  | _ => none }
def pathfindMatchesReferenceRow : OpenClaim := { program := "ytlhjnochednegaagreat", sum := "d98c82d49cdbad63863b48f27870bc8d679e9c77e9b67de5c9bb377ae18da054", func := "ambidexter/ambidexterlaw18.PathfindMatchesReference", spec := "pathfindMatchesReference", unfollowed := true, recurses := true, plainKeys := false, apart := false }
def PathfindMatchesReferenceSaid : Prop := pathfindMatchesReferenceRow.holds Tryz.pinned (OpenSpec.ofChange pathfindMatchesReferenceSpec)

/-- ITS FALSE NEIGHBOUR: 'it returns false'. Refute it at one input. -/
def pathfindMatchesReferenceWrong : ChangeSpec := { name := "pathfindMatchesReference", fn := fun _ => fun
  | [d1, d2, d3, d4] => { results := [.lit (.bool false)], args := [d1, d2, d3, d4] }
  | _ => none }
def PathfindMatchesReferenceWrongFalsely : Prop := pathfindMatchesReferenceRow.holds Tryz.pinned (OpenSpec.ofChange pathfindMatchesReferenceWrong)

/-- 'ambidexterlaw18.PathfindFree': WHATEVER THE INPUT: true; the input reads as it did. -/
def pathfindFreeSpec : ChangeSpec := { name := "pathfindFree", fn := fun _ => fun
  | [d1, d2] => { results := [.lit (.bool true)], args := [d1, d2] }
  | _ => none }
def pathfindFreeRow : OpenClaim := { program := "ytlhjnochednegaagreat", sum := "d98c82d49cdbad63863b48f27870bc8d679e9c77e9b67de5c9bb377ae18da054", func := "ambidexter/ambidexterlaw18.PathfindFree", spec := "pathfindFree", unfollowed := true, recurses := true, plainKeys := false, apart := false }
def PathfindFreeSaid : Prop := pathfindFreeRow.holds Tryz.pinned (OpenSpec.ofChange pathfindFreeSpec)

/-- ITS FALSE NEIGHBOUR: 'it returns false'. Refute it at one input. -/
def pathfindFreeWrong : ChangeSpec := { name := "pathfindFree", fn := fun _ => fun
  | [d1, d2] => { results := [.lit (.bool false)], args := [d1, d2] }
  | _ => none }
def PathfindFreeWrongFalsely : Prop := pathfindFreeRow.holds Tryz.pinned (OpenSpec.ofChange pathfindFreeWrong)

/-- 'ambidexterlaw18.PathfindShort': WHATEVER THE INPUT: true; the input reads as it did. -/
def pathfindShortSpec : ChangeSpec := { name := "pathfindShort", fn := fun _ => fun
  | [d1, d2, d3] => { results := [.lit (.bool true)], args := [d1, d2, d3] }
  | _ => none }
def pathfindShortRow : OpenClaim := { program := "ytlhjnochednegaagreat", sum := "d98c82d49cdbad63863b48f27870bc8d679e9c77e9b67de5c9bb377ae18da054", func := "ambidexter/ambidexterlaw18.PathfindShort", spec := "pathfindShort", unfollowed := true, recurses := true, plainKeys := false, apart := false }
def PathfindShortSaid : Prop := pathfindShortRow.holds Tryz.pinned (OpenSpec.ofChange pathfindShortSpec)

/-- ITS FALSE NEIGHBOUR: 'it returns false'. Refute it at one input. -/
def pathfindShortWrong : ChangeSpec := { name := "pathfindShort", fn := fun _ => fun
  | [d1, d2, d3] => { results := [.lit (.bool false)], args := [d1, d2, d3] }
  | _ => none }
def PathfindShortWrongFalsely : Prop := pathfindShortRow.holds Tryz.pinned (OpenSpec.ofChange pathfindShortWrong)

/-- 'ambidexterlaw18.PathfindBack': WHATEVER THE INPUT: true; the input reads as it did. -/
def pathfindBackSpec : ChangeSpec := { name := "pathfindBack", fn := fun _ => fun
  | [d1, d2] => { results := [.lit (.bool true)], args := [d1, d2] }
  | _ => none }
def pathfindBackRow : OpenClaim := { program := "ytlhjnochednegaagreat", sum := "d98c82d49cdbad63863b48f27870bc8d679e9c77e9b67de5c9bb377ae18da054", func := "ambidexter/ambidexterlaw18.PathfindBack", spec := "pathfindBack", unfollowed := true, recurses := true, plainKeys := false, apart := false }
def PathfindBackSaid : Prop := pathfindBackRow.holds Tryz.pinned (OpenSpec.ofChange pathfindBackSpec)

/-- ITS FALSE NEIGHBOUR: 'it returns false'. Refute it at one input. -/
def pathfindBackWrong : ChangeSpec := { name := "pathfindBack", fn := fun _ => fun
  | [d1, d2] => { results := [.lit (.bool false)], args := [d1, d2] }
  | _ => none }
def PathfindBackWrongFalsely : Prop := pathfindBackRow.holds Tryz.pinned (OpenSpec.ofChange pathfindBackWrong)

/-- 'ambidexterlaw18.PathfindDenied': WHATEVER THE INPUT: true; the input reads as it did. -/
def pathfindDeniedSpec : ChangeSpec := { name := "pathfindDenied", fn := fun _ => fun
  | [d1, d2] => { results := [.lit (.bool true)], args := [d1, d2] }
  | _ => none }
def pathfindDeniedRow : OpenClaim := { program := "ytlhjnochednegaagreat", sum := "d98c82d49cdbad63863b48f27870bc8d679e9c77e9b67de5c9bb377ae18da054", func := "ambidexter/ambidexterlaw18.PathfindDenied", spec := "pathfindDenied", unfollowed := true, recurses := true, plainKeys := false, apart := false }
def PathfindDeniedSaid : Prop := pathfindDeniedRow.holds Tryz.pinned (OpenSpec.ofChange pathfindDeniedSpec)

/-- ITS FALSE NEIGHBOUR: 'it returns false'. Refute it at one input. -/
def pathfindDeniedWrong : ChangeSpec := { name := "pathfindDenied", fn := fun _ => fun
  | [d1, d2] => { results := [.lit (.bool false)], args := [d1, d2] }
  | _ => none }
def PathfindDeniedWrongFalsely : Prop := pathfindDeniedRow.holds Tryz.pinned (OpenSpec.ofChange pathfindDeniedWrong)

/-- 'ambidexterlaw18.PathfindMonotonic': WHATEVER THE INPUT: true; the input reads as it did. -/
def pathfindMonotonicSpec : ChangeSpec := { name := "pathfindMonotonic", fn := fun _ => fun
  | [d1, d2, d3, d4] => { results := [.lit (.bool true)], args := [d1, d2, d3, d4] }
  | _ => none }
def pathfindMonotonicRow : OpenClaim := { program := "ytlhjnochednegaagreat", sum := "d98c82d49cdbad63863b48f27870bc8d679e9c77e9b67de5c9bb377ae18da054", func := "ambidexter/ambidexterlaw18.PathfindMonotonic", spec := "pathfindMonotonic", unfollowed := true, recurses := true, plainKeys := false, apart := false }
def PathfindMonotonicSaid : Prop := pathfindMonotonicRow.holds Tryz.pinned (OpenSpec.ofChange pathfindMonotonicSpec)

/-- ITS FALSE NEIGHBOUR: 'it returns false'. Refute it at one input. -/
def pathfindMonotonicWrong : ChangeSpec := { name := "pathfindMonotonic", fn := fun _ => fun
  | [d1, d2, d3, d4] => { results := [.lit (.bool false)], args := [d1, d2, d3, d4] }
  | _ => none }
def PathfindMonotonicWrongFalsely : Prop := pathfindMonotonicRow.holds Tryz.pinned (OpenSpec.ofChange pathfindMonotonicWrong)

/-- 'ambidexterlaw18.PathfindLimit': WHATEVER THE INPUT: true; the input reads as it did. -/
def pathfindLimitSpec : ChangeSpec := { name := "pathfindLimit", fn := fun _ => fun
  | [d] => { results := [.lit (.bool true)], args := [d] }
  | _ => none }
def pathfindLimitRow : OpenClaim := { program := "ytlhjnochednegaagreat", sum := "d98c82d49cdbad63863b48f27870bc8d679e9c77e9b67de5c9bb377ae18da054", func := "ambidexter/ambidexterlaw18.PathfindLimit", spec := "pathfindLimit", unfollowed := true, recurses := true, plainKeys := false, apart := false }
def PathfindLimitSaid : Prop := pathfindLimitRow.holds Tryz.pinned (OpenSpec.ofChange pathfindLimitSpec)

/-- ITS FALSE NEIGHBOUR: 'it returns false'. Refute it at one input. -/
def pathfindLimitWrong : ChangeSpec := { name := "pathfindLimit", fn := fun _ => fun
  | [d] => { results := [.lit (.bool false)], args := [d] }
  | _ => none }
def PathfindLimitWrongFalsely : Prop := pathfindLimitRow.holds Tryz.pinned (OpenSpec.ofChange pathfindLimitWrong)

/- THE SECOND FORM. 'bulk': how many values and letters a reading holds, each counted each time it is reached (what is shared counts as often as it is met; a slice's spare places count too). A statement '..UptoSaid' is the law's where the arguments, and the package variables that the reading takes, are together of bulk at most 1048576: NARROWER than '..Said'. Prove '..Said' where nothing that the law and all that it calls make is longer than what came in: it says more and counts as full. Else prove '..UptoSaid'. A law counts once. -/
mutual
def uptoBulk {H : Type} : DataW H → Nat
  | .lit (.string bytes) => bytes.length + 1
  | .lit _ => 1
  | .nil => 1
  | .ptr d => uptoBulk d + 1
  | .slice elems spare => uptoBulkAll elems + uptoBulkAll spare + 1
  | .agg parts => uptoBulkAll parts + 1
  | .iface _ d => uptoBulk d + 1
  | .map entries => uptoBulkEntries entries + 1
  | .held _ => 1
def uptoBulkAll {H : Type} : List (DataW H) → Nat
  | [] => 0
  | d :: r => uptoBulk d + uptoBulkAll r
def uptoBulkEntries {H : Type} : List (Lit × DataW H) → Nat
  | [] => 0
  | x :: r => uptoBulkEntry x + uptoBulkEntries r
def uptoBulkEntry {H : Type} : Lit × DataW H → Nat
  | (.string bytes, d) => bytes.length + uptoBulk d + 1
  | (_, d) => uptoBulk d + 1
 end
def uptoSmall : (H : Type) → List (DataW H) → Bool := fun _ ds => decide (uptoBulkAll ds ≤ 1048576)
def OpenSpec.upto (s : _root_.Go.ChangeSpec) : _root_.Go.OpenSpec := { _root_.Go.OpenSpec.ofChange s with cond := some uptoSmall }

/-- 'ambidexterlaw18.PathfindMatchesReference', WHERE WHAT IT READS IS OF BULK AT MOST 1048576: true; the input reads as it did. -/
def pathfindMatchesReferenceUptoRow : OpenClaim := { program := "ytlhjnochednegaagreat", sum := "d98c82d49cdbad63863b48f27870bc8d679e9c77e9b67de5c9bb377ae18da054", func := "ambidexter/ambidexterlaw18.PathfindMatchesReference", spec := "pathfindMatchesReference", unfollowed := true, recurses := true, plainKeys := false, apart := false, narrowed := true }
def PathfindMatchesReferenceUptoSaid : Prop := pathfindMatchesReferenceUptoRow.holds Tryz.pinned (OpenSpec.upto pathfindMatchesReferenceSpec)

/-- 'ambidexterlaw18.PathfindFree', WHERE WHAT IT READS IS OF BULK AT MOST 1048576: true; the input reads as it did. -/
def pathfindFreeUptoRow : OpenClaim := { program := "ytlhjnochednegaagreat", sum := "d98c82d49cdbad63863b48f27870bc8d679e9c77e9b67de5c9bb377ae18da054", func := "ambidexter/ambidexterlaw18.PathfindFree", spec := "pathfindFree", unfollowed := true, recurses := true, plainKeys := false, apart := false, narrowed := true }
def PathfindFreeUptoSaid : Prop := pathfindFreeUptoRow.holds Tryz.pinned (OpenSpec.upto pathfindFreeSpec)

/-- 'ambidexterlaw18.PathfindShort', WHERE WHAT IT READS IS OF BULK AT MOST 1048576: true; the input reads as it did. -/
def pathfindShortUptoRow : OpenClaim := { program := "ytlhjnochednegaagreat", sum := "d98c82d49cdbad63863b48f27870bc8d679e9c77e9b67de5c9bb377ae18da054", func := "ambidexter/ambidexterlaw18.PathfindShort", spec := "pathfindShort", unfollowed := true, recurses := true, plainKeys := false, apart := false, narrowed := true }
def PathfindShortUptoSaid : Prop := pathfindShortUptoRow.holds Tryz.pinned (OpenSpec.upto pathfindShortSpec)

/-- 'ambidexterlaw18.PathfindBack', WHERE WHAT IT READS IS OF BULK AT MOST 1048576: true; the input reads as it did. -/
def pathfindBackUptoRow : OpenClaim := { program := "ytlhjnochednegaagreat", sum := "d98c82d49cdbad63863b48f27870bc8d679e9c77e9b67de5c9bb377ae18da054", func := "ambidexter/ambidexterlaw18.PathfindBack", spec := "pathfindBack", unfollowed := true, recurses := true, plainKeys := false, apart := false, narrowed := true }
def PathfindBackUptoSaid : Prop := pathfindBackUptoRow.holds Tryz.pinned (OpenSpec.upto pathfindBackSpec)

/-- 'ambidexterlaw18.PathfindDenied', WHERE WHAT IT READS IS OF BULK AT MOST 1048576: true; the input reads as it did. -/
def pathfindDeniedUptoRow : OpenClaim := { program := "ytlhjnochednegaagreat", sum := "d98c82d49cdbad63863b48f27870bc8d679e9c77e9b67de5c9bb377ae18da054", func := "ambidexter/ambidexterlaw18.PathfindDenied", spec := "pathfindDenied", unfollowed := true, recurses := true, plainKeys := false, apart := false, narrowed := true }
def PathfindDeniedUptoSaid : Prop := pathfindDeniedUptoRow.holds Tryz.pinned (OpenSpec.upto pathfindDeniedSpec)

/-- 'ambidexterlaw18.PathfindMonotonic', WHERE WHAT IT READS IS OF BULK AT MOST 1048576: true; the input reads as it did. -/
def pathfindMonotonicUptoRow : OpenClaim := { program := "ytlhjnochednegaagreat", sum := "d98c82d49cdbad63863b48f27870bc8d679e9c77e9b67de5c9bb377ae18da054", func := "ambidexter/ambidexterlaw18.PathfindMonotonic", spec := "pathfindMonotonic", unfollowed := true, recurses := true, plainKeys := false, apart := false, narrowed := true }
def PathfindMonotonicUptoSaid : Prop := pathfindMonotonicUptoRow.holds Tryz.pinned (OpenSpec.upto pathfindMonotonicSpec)

/-- 'ambidexterlaw18.PathfindLimit', WHERE WHAT IT READS IS OF BULK AT MOST 1048576: true; the input reads as it did. -/
def pathfindLimitUptoRow : OpenClaim := { program := "ytlhjnochednegaagreat", sum := "d98c82d49cdbad63863b48f27870bc8d679e9c77e9b67de5c9bb377ae18da054", func := "ambidexter/ambidexterlaw18.PathfindLimit", spec := "pathfindLimit", unfollowed := true, recurses := true, plainKeys := false, apart := false, narrowed := true }
def PathfindLimitUptoSaid : Prop := pathfindLimitUptoRow.holds Tryz.pinned (OpenSpec.upto pathfindLimitSpec)

end Rows
end Go.Proofs.YtlhjnochednegaaGreat
