/-
  No cell of these rows narrows 'for every input' (looked for: loops, veiled, ifaces, maps, wideKeys, modest, calm, conditions, laid).
  DERIVED. THE GIVEN ROWS OF THIS SEAT. 6 by the template 'for every input the law returns true; each argument reads behind the call as it read before'; 0 by the template 'total and deterministic' (their statements: YtipafalnnbojkaaGreatTotals.lean).
  GIVEN WITH THE SEED: the statements are not yours to turn. If you find one false, say at which input.
  Laid BY PROGRAM, IN A SANDBOX (cutbox-rows.mjs): the forced cells as the released guide's own fill.sh prints them over the translation e5a3ef04d57d1280… (all of the seat's roots in one cut). By AI agents, Wed Nov 11 2026. No macro, syntax, notation, axiom, sorry.
-/
import Derived.Test.YtipafalnnbojkaaGreatChecked
import GoSem.Claim
import GoSem.ClaimJoined
import GoSem.ClaimMapViews
import Derived.JoinedTies
import Derived.KernelRfl
namespace Go.Proofs.YtipafalnnbojkaaGreat
/- THE CELL 'sum', in the pinned program and in every row, IS THE sha256 OF THE DUMP (.gsa) THAT YtipafalnnbojkaaGreatProg.lean LOADS. Nothing in Lean hashes anything: it is a label: what it is worth is what the hold of that sum in a sandbox is worth. -/
noncomputable def Tryz.pinned : Pinned := { name := "ytipafalnnbojkaagreat", sum := "e5a3ef04d57d1280ef9ee13be5ad6c85240b9dde5c3ede9024672108043fe8a2", checked := Tryz.checked }
namespace Rows
def none {H : Type} : Left H := { results := [], args := [] }

/-- 'ambidexterlaw15.JointmoveMatchesReference': WHATEVER THE INPUT: true; the input reads as it did. -/
def jointmoveMatchesReferenceSpec : ChangeSpec := { name := "jointmoveMatchesReference", fn := fun _ => fun
  | [d1, d2, d3] => { results := [.lit (.bool true)], args := [d1, d2, d3] }
  | _ => none }
def jointmoveMatchesReferenceRow : OpenClaim := { program := "ytipafalnnbojkaagreat", sum := "e5a3ef04d57d1280ef9ee13be5ad6c85240b9dde5c3ede9024672108043fe8a2", func := "ambidexter/ambidexterlaw15.JointmoveMatchesReference", spec := "jointmoveMatchesReference", unfollowed := true, recurses := true, plainKeys := false, apart := false }
def JointmoveMatchesReferenceSaid : Prop := jointmoveMatchesReferenceRow.holds Tryz.pinned (OpenSpec.ofChange jointmoveMatchesReferenceSpec)

/-- ITS FALSE NEIGHBOUR: 'it returns false'. Refute it at one input. -/
def jointmoveMatchesReferenceWrong : ChangeSpec := { name := "jointmoveMatchesReference", fn := fun _ => fun
  | [d1, d2, d3] => { results := [.lit (.bool false)], args := [d1, d2, d3] }
  | _ => none }
def JointmoveMatchesReferenceWrongFalsely : Prop := jointmoveMatchesReferenceRow.holds Tryz.pinned (OpenSpec.ofChange jointmoveMatchesReferenceWrong)

/-- 'ambidexterlaw15.JointmoveIsSound': WHATEVER THE INPUT: true; the input reads as it did. -/
def jointmoveIsSoundSpec : ChangeSpec := { name := "jointmoveIsSound", fn := fun _ => fun
  | [d1, d2, d3] => { results := [.lit (.bool true)], args := [d1, d2, d3] }
  | _ => none }
def jointmoveIsSoundRow : OpenClaim := { program := "ytipafalnnbojkaagreat", sum := "e5a3ef04d57d1280ef9ee13be5ad6c85240b9dde5c3ede9024672108043fe8a2", func := "ambidexter/ambidexterlaw15.JointmoveIsSound", spec := "jointmoveIsSound", unfollowed := true, recurses := true, plainKeys := false, apart := false }
def JointmoveIsSoundSaid : Prop := jointmoveIsSoundRow.holds Tryz.pinned (OpenSpec.ofChange jointmoveIsSoundSpec)

/-- ITS FALSE NEIGHBOUR: 'it returns false'. Refute it at one input. -/
def jointmoveIsSoundWrong : ChangeSpec := { name := "jointmoveIsSound", fn := fun _ => fun
  | [d1, d2, d3] => { results := [.lit (.bool false)], args := [d1, d2, d3] }
  | _ => none }
def JointmoveIsSoundWrongFalsely : Prop := jointmoveIsSoundRow.holds Tryz.pinned (OpenSpec.ofChange jointmoveIsSoundWrong)

/-- 'ambidexterlaw15.JointmoveRegionContainsMotion': WHATEVER THE INPUT: true; the input reads as it did. -/
def jointmoveRegionContainsMotionSpec : ChangeSpec := { name := "jointmoveRegionContainsMotion", fn := fun _ => fun
  | [d1, d2, d3] => { results := [.lit (.bool true)], args := [d1, d2, d3] }
  | _ => none }
def jointmoveRegionContainsMotionRow : OpenClaim := { program := "ytipafalnnbojkaagreat", sum := "e5a3ef04d57d1280ef9ee13be5ad6c85240b9dde5c3ede9024672108043fe8a2", func := "ambidexter/ambidexterlaw15.JointmoveRegionContainsMotion", spec := "jointmoveRegionContainsMotion", unfollowed := true, recurses := true, plainKeys := false, apart := false }
def JointmoveRegionContainsMotionSaid : Prop := jointmoveRegionContainsMotionRow.holds Tryz.pinned (OpenSpec.ofChange jointmoveRegionContainsMotionSpec)

/-- ITS FALSE NEIGHBOUR: 'it returns false'. Refute it at one input. -/
def jointmoveRegionContainsMotionWrong : ChangeSpec := { name := "jointmoveRegionContainsMotion", fn := fun _ => fun
  | [d1, d2, d3] => { results := [.lit (.bool false)], args := [d1, d2, d3] }
  | _ => none }
def JointmoveRegionContainsMotionWrongFalsely : Prop := jointmoveRegionContainsMotionRow.holds Tryz.pinned (OpenSpec.ofChange jointmoveRegionContainsMotionWrong)

/-- 'ambidexterlaw15.JointmoveIsReversible': WHATEVER THE INPUT: true; the input reads as it did. -/
def jointmoveIsReversibleSpec : ChangeSpec := { name := "jointmoveIsReversible", fn := fun _ => fun
  | [d1, d2, d3] => { results := [.lit (.bool true)], args := [d1, d2, d3] }
  | _ => none }
def jointmoveIsReversibleRow : OpenClaim := { program := "ytipafalnnbojkaagreat", sum := "e5a3ef04d57d1280ef9ee13be5ad6c85240b9dde5c3ede9024672108043fe8a2", func := "ambidexter/ambidexterlaw15.JointmoveIsReversible", spec := "jointmoveIsReversible", unfollowed := true, recurses := true, plainKeys := false, apart := false }
def JointmoveIsReversibleSaid : Prop := jointmoveIsReversibleRow.holds Tryz.pinned (OpenSpec.ofChange jointmoveIsReversibleSpec)

/-- ITS FALSE NEIGHBOUR: 'it returns false'. Refute it at one input. -/
def jointmoveIsReversibleWrong : ChangeSpec := { name := "jointmoveIsReversible", fn := fun _ => fun
  | [d1, d2, d3] => { results := [.lit (.bool false)], args := [d1, d2, d3] }
  | _ => none }
def JointmoveIsReversibleWrongFalsely : Prop := jointmoveIsReversibleRow.holds Tryz.pinned (OpenSpec.ofChange jointmoveIsReversibleWrong)

/-- 'ambidexterlaw15.JointmoveIsMonotonic': WHATEVER THE INPUT: true; the input reads as it did. -/
def jointmoveIsMonotonicSpec : ChangeSpec := { name := "jointmoveIsMonotonic", fn := fun _ => fun
  | [d1, d2, d3, d4] => { results := [.lit (.bool true)], args := [d1, d2, d3, d4] }
  | _ => none }
def jointmoveIsMonotonicRow : OpenClaim := { program := "ytipafalnnbojkaagreat", sum := "e5a3ef04d57d1280ef9ee13be5ad6c85240b9dde5c3ede9024672108043fe8a2", func := "ambidexter/ambidexterlaw15.JointmoveIsMonotonic", spec := "jointmoveIsMonotonic", unfollowed := true, recurses := true, plainKeys := false, apart := false }
def JointmoveIsMonotonicSaid : Prop := jointmoveIsMonotonicRow.holds Tryz.pinned (OpenSpec.ofChange jointmoveIsMonotonicSpec)

/-- ITS FALSE NEIGHBOUR: 'it returns false'. Refute it at one input. -/
def jointmoveIsMonotonicWrong : ChangeSpec := { name := "jointmoveIsMonotonic", fn := fun _ => fun
  | [d1, d2, d3, d4] => { results := [.lit (.bool false)], args := [d1, d2, d3, d4] }
  | _ => none }
def JointmoveIsMonotonicWrongFalsely : Prop := jointmoveIsMonotonicRow.holds Tryz.pinned (OpenSpec.ofChange jointmoveIsMonotonicWrong)

/-- 'ambidexterlaw15.JointmoveCertificateOrObstruction': WHATEVER THE INPUT: true; the input reads as it did. -/
def jointmoveCertificateOrObstructionSpec : ChangeSpec := { name := "jointmoveCertificateOrObstruction", fn := fun _ => fun
  | [d1, d2, d3] => { results := [.lit (.bool true)], args := [d1, d2, d3] }
  | _ => none }
def jointmoveCertificateOrObstructionRow : OpenClaim := { program := "ytipafalnnbojkaagreat", sum := "e5a3ef04d57d1280ef9ee13be5ad6c85240b9dde5c3ede9024672108043fe8a2", func := "ambidexter/ambidexterlaw15.JointmoveCertificateOrObstruction", spec := "jointmoveCertificateOrObstruction", unfollowed := true, recurses := true, plainKeys := false, apart := false }
def JointmoveCertificateOrObstructionSaid : Prop := jointmoveCertificateOrObstructionRow.holds Tryz.pinned (OpenSpec.ofChange jointmoveCertificateOrObstructionSpec)

/-- ITS FALSE NEIGHBOUR: 'it returns false'. Refute it at one input. -/
def jointmoveCertificateOrObstructionWrong : ChangeSpec := { name := "jointmoveCertificateOrObstruction", fn := fun _ => fun
  | [d1, d2, d3] => { results := [.lit (.bool false)], args := [d1, d2, d3] }
  | _ => none }
def JointmoveCertificateOrObstructionWrongFalsely : Prop := jointmoveCertificateOrObstructionRow.holds Tryz.pinned (OpenSpec.ofChange jointmoveCertificateOrObstructionWrong)

/- THE SECOND FORM. 'bulk': how many values and letters a reading holds, each counted each time it is reached (what is shared counts as often as it is met; a slice's spare places count too). A statement '..UptoSaid' is the law's where the arguments, and the package variables that the reading takes, are together of bulk at most 1048576: NARROWER than '..Said'. Prove '..Said' where nothing that the law and all that it calls make is longer than what came in: it says more and counts as full. Else prove '..UptoSaid'. A law counts once. -/
mutual
def uptoBulk {H : Type} : DataW H → Nat
  | .lit (.string bytes) => bytes.length + 1
  | .lit _ => 1
  | .nil => 1
  | .ptr d => uptoBulk d + 1
  | .slice elems spare => uptoBulkAll elems + uptoBulkAll spare + 1
  | .agg parts => uptoBulkAll parts + 1
  | .iface _ d => uptoBulk d + 1
  | .map entries => uptoBulkEntries entries + 1
  | .held _ => 1
def uptoBulkAll {H : Type} : List (DataW H) → Nat
  | [] => 0
  | d :: r => uptoBulk d + uptoBulkAll r
def uptoBulkEntries {H : Type} : List (Lit × DataW H) → Nat
  | [] => 0
  | x :: r => uptoBulkEntry x + uptoBulkEntries r
def uptoBulkEntry {H : Type} : Lit × DataW H → Nat
  | (.string bytes, d) => bytes.length + uptoBulk d + 1
  | (_, d) => uptoBulk d + 1
 end
def uptoSmall : (H : Type) → List (DataW H) → Bool := fun _ ds => decide (uptoBulkAll ds ≤ 1048576)
def OpenSpec.upto (s : _root_.Go.ChangeSpec) : _root_.Go.OpenSpec := { _root_.Go.OpenSpec.ofChange s with cond := some uptoSmall }

/-- 'ambidexterlaw15.JointmoveMatchesReference', WHERE WHAT IT READS IS OF BULK AT MOST 1048576: true; the input reads as it did. -/
def jointmoveMatchesReferenceUptoRow : OpenClaim := { program := "ytipafalnnbojkaagreat", sum := "e5a3ef04d57d1280ef9ee13be5ad6c85240b9dde5c3ede9024672108043fe8a2", func := "ambidexter/ambidexterlaw15.JointmoveMatchesReference", spec := "jointmoveMatchesReference", unfollowed := true, recurses := true, plainKeys := false, apart := false, narrowed := true }
def JointmoveMatchesReferenceUptoSaid : Prop := jointmoveMatchesReferenceUptoRow.holds Tryz.pinned (OpenSpec.upto jointmoveMatchesReferenceSpec)

/-- 'ambidexterlaw15.JointmoveIsSound', WHERE WHAT IT READS IS OF BULK AT MOST 1048576: true; the input reads as it did. -/
def jointmoveIsSoundUptoRow : OpenClaim := { program := "ytipafalnnbojkaagreat", sum := "e5a3ef04d57d1280ef9ee13be5ad6c85240b9dde5c3ede9024672108043fe8a2", func := "ambidexter/ambidexterlaw15.JointmoveIsSound", spec := "jointmoveIsSound", unfollowed := true, recurses := true, plainKeys := false, apart := false, narrowed := true }
def JointmoveIsSoundUptoSaid : Prop := jointmoveIsSoundUptoRow.holds Tryz.pinned (OpenSpec.upto jointmoveIsSoundSpec)

/-- 'ambidexterlaw15.JointmoveRegionContainsMotion', WHERE WHAT IT READS IS OF BULK AT MOST 1048576: true; the input reads as it did. -/
def jointmoveRegionContainsMotionUptoRow : OpenClaim := { program := "ytipafalnnbojkaagreat", sum := "e5a3ef04d57d1280ef9ee13be5ad6c85240b9dde5c3ede9024672108043fe8a2", func := "ambidexter/ambidexterlaw15.JointmoveRegionContainsMotion", spec := "jointmoveRegionContainsMotion", unfollowed := true, recurses := true, plainKeys := false, apart := false, narrowed := true }
def JointmoveRegionContainsMotionUptoSaid : Prop := jointmoveRegionContainsMotionUptoRow.holds Tryz.pinned (OpenSpec.upto jointmoveRegionContainsMotionSpec)

/-- 'ambidexterlaw15.JointmoveIsReversible', WHERE WHAT IT READS IS OF BULK AT MOST 1048576: true; the input reads as it did. -/
def jointmoveIsReversibleUptoRow : OpenClaim := { program := "ytipafalnnbojkaagreat", sum := "e5a3ef04d57d1280ef9ee13be5ad6c85240b9dde5c3ede9024672108043fe8a2", func := "ambidexter/ambidexterlaw15.JointmoveIsReversible", spec := "jointmoveIsReversible", unfollowed := true, recurses := true, plainKeys := false, apart := false, narrowed := true }
def JointmoveIsReversibleUptoSaid : Prop := jointmoveIsReversibleUptoRow.holds Tryz.pinned (OpenSpec.upto jointmoveIsReversibleSpec)

/-- 'ambidexterlaw15.JointmoveIsMonotonic', WHERE WHAT IT READS IS OF BULK AT MOST 1048576: true; the input reads as it did. -/
def jointmoveIsMonotonicUptoRow : OpenClaim := { program := "ytipafalnnbojkaagreat", sum := "e5a3ef04d57d1280ef9ee13be5ad6c85240b9dde5c3ede9024672108043fe8a2", func := "ambidexter/ambidexterlaw15.JointmoveIsMonotonic", spec := "jointmoveIsMonotonic", unfollowed := true, recurses := true, plainKeys := false, apart := false, narrowed := true }
def JointmoveIsMonotonicUptoSaid : Prop := jointmoveIsMonotonicUptoRow.holds Tryz.pinned (OpenSpec.upto jointmoveIsMonotonicSpec)

/-- 'ambidexterlaw15.JointmoveCertificateOrObstruction', WHERE WHAT IT READS IS OF BULK AT MOST 1048576: true; the input reads as it did. -/
def jointmoveCertificateOrObstructionUptoRow : OpenClaim := { program := "ytipafalnnbojkaagreat", sum := "e5a3ef04d57d1280ef9ee13be5ad6c85240b9dde5c3ede9024672108043fe8a2", func := "ambidexter/ambidexterlaw15.JointmoveCertificateOrObstruction", spec := "jointmoveCertificateOrObstruction", unfollowed := true, recurses := true, plainKeys := false, apart := false, narrowed := true }
def JointmoveCertificateOrObstructionUptoSaid : Prop := jointmoveCertificateOrObstructionUptoRow.holds Tryz.pinned (OpenSpec.upto jointmoveCertificateOrObstructionSpec)

end Rows
end Go.Proofs.YtipafalnnbojkaaGreat
