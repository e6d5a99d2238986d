/-
  No cell of these rows narrows 'for every input' (looked for: loops, veiled, ifaces, maps, wideKeys, modest, calm, conditions, laid).
  DERIVED. THE GIVEN ROWS OF THIS SEAT. 7 by the template 'for every input the law returns true; each argument reads behind the call as it read before'; 0 by the template 'total and deterministic' (their statements: YtgjaamjbagoieaaTotals.lean).
  GIVEN WITH THE SEED: the statements are not yours to turn. If you find one false, say at which input.
  Laid BY PROGRAM, IN A SANDBOX (cutbox-rows.mjs): the forced cells as the released guide's own fill.sh prints them over the translation 9600fde45c5f53b9… (all of the seat's roots in one cut). By AI agents, Wed Nov 11 2026. No macro, syntax, notation, axiom, sorry.
-/
import Derived.Test.YtgjaamjbagoieaaChecked
import GoSem.Claim
import GoSem.ClaimJoined
import GoSem.ClaimMapViews
import Derived.JoinedTies
import Derived.KernelRfl
namespace Go.Proofs.Ytgjaamjbagoieaa
/- THE CELL 'sum', in the pinned program and in every row, IS THE sha256 OF THE DUMP (.gsa) THAT YtgjaamjbagoieaaProg.lean LOADS. Nothing in Lean hashes anything: it is a label: what it is worth is what the hold of that sum in a sandbox is worth. -/
noncomputable def Try.pinned : Pinned := { name := "ytgjaamjbagoieaa", sum := "9600fde45c5f53b9db1ce11694f8e0beed7c91844f0f462a7f0c5bf5fc8d936f", checked := Try.checked }
namespace Rows
def none {H : Type} : Left H := { results := [], args := [] }

/-- 'ambidexterlaw04.HullMatchesReference': WHATEVER THE INPUT: true; the input reads as it did. -/
def hullMatchesReferenceSpec : ChangeSpec := { name := "hullMatchesReference", fn := fun _ => fun
  | [d1, d2] => { results := [.lit (.bool true)], args := [d1, d2] }
  | _ => none }
def hullMatchesReferenceRow : OpenClaim := { program := "ytgjaamjbagoieaa", sum := "9600fde45c5f53b9db1ce11694f8e0beed7c91844f0f462a7f0c5bf5fc8d936f", func := "ambidexter/ambidexterlaw04.HullMatchesReference", spec := "hullMatchesReference", unfollowed := true, recurses := true, apart := false }
def HullMatchesReferenceSaid : Prop := hullMatchesReferenceRow.holds Try.pinned (OpenSpec.ofChange hullMatchesReferenceSpec)

/-- ITS FALSE NEIGHBOUR: 'it returns false'. Refute it at one input. -/
def hullMatchesReferenceWrong : ChangeSpec := { name := "hullMatchesReference", fn := fun _ => fun
  | [d1, d2] => { results := [.lit (.bool false)], args := [d1, d2] }
  | _ => none }
def HullMatchesReferenceWrongFalsely : Prop := hullMatchesReferenceRow.holds Try.pinned (OpenSpec.ofChange hullMatchesReferenceWrong)

/-- 'ambidexterlaw04.HullContainsInput': WHATEVER THE INPUT: true; the input reads as it did. -/
def hullContainsInputSpec : ChangeSpec := { name := "hullContainsInput", fn := fun _ => fun
  | [d1, d2, d3] => { results := [.lit (.bool true)], args := [d1, d2, d3] }
  | _ => none }
def hullContainsInputRow : OpenClaim := { program := "ytgjaamjbagoieaa", sum := "9600fde45c5f53b9db1ce11694f8e0beed7c91844f0f462a7f0c5bf5fc8d936f", func := "ambidexter/ambidexterlaw04.HullContainsInput", spec := "hullContainsInput", unfollowed := true, recurses := true, apart := false }
def HullContainsInputSaid : Prop := hullContainsInputRow.holds Try.pinned (OpenSpec.ofChange hullContainsInputSpec)

/-- ITS FALSE NEIGHBOUR: 'it returns false'. Refute it at one input. -/
def hullContainsInputWrong : ChangeSpec := { name := "hullContainsInput", fn := fun _ => fun
  | [d1, d2, d3] => { results := [.lit (.bool false)], args := [d1, d2, d3] }
  | _ => none }
def HullContainsInputWrongFalsely : Prop := hullContainsInputRow.holds Try.pinned (OpenSpec.ofChange hullContainsInputWrong)

/-- 'ambidexterlaw04.HullCanonical': WHATEVER THE INPUT: true; the input reads as it did. -/
def hullCanonicalSpec : ChangeSpec := { name := "hullCanonical", fn := fun _ => fun
  | [d1, d2] => { results := [.lit (.bool true)], args := [d1, d2] }
  | _ => none }
def hullCanonicalRow : OpenClaim := { program := "ytgjaamjbagoieaa", sum := "9600fde45c5f53b9db1ce11694f8e0beed7c91844f0f462a7f0c5bf5fc8d936f", func := "ambidexter/ambidexterlaw04.HullCanonical", spec := "hullCanonical", unfollowed := true, recurses := true, apart := false }
def HullCanonicalSaid : Prop := hullCanonicalRow.holds Try.pinned (OpenSpec.ofChange hullCanonicalSpec)

/-- ITS FALSE NEIGHBOUR: 'it returns false'. Refute it at one input. -/
def hullCanonicalWrong : ChangeSpec := { name := "hullCanonical", fn := fun _ => fun
  | [d1, d2] => { results := [.lit (.bool false)], args := [d1, d2] }
  | _ => none }
def HullCanonicalWrongFalsely : Prop := hullCanonicalRow.holds Try.pinned (OpenSpec.ofChange hullCanonicalWrong)

/-- 'ambidexterlaw04.HullAddPoint': WHATEVER THE INPUT: true; the input reads as it did. -/
def hullAddPointSpec : ChangeSpec := { name := "hullAddPoint", fn := fun _ => fun
  | [d1, d2] => { results := [.lit (.bool true)], args := [d1, d2] }
  | _ => none }
def hullAddPointRow : OpenClaim := { program := "ytgjaamjbagoieaa", sum := "9600fde45c5f53b9db1ce11694f8e0beed7c91844f0f462a7f0c5bf5fc8d936f", func := "ambidexter/ambidexterlaw04.HullAddPoint", spec := "hullAddPoint", unfollowed := true, recurses := true, apart := false }
def HullAddPointSaid : Prop := hullAddPointRow.holds Try.pinned (OpenSpec.ofChange hullAddPointSpec)

/-- ITS FALSE NEIGHBOUR: 'it returns false'. Refute it at one input. -/
def hullAddPointWrong : ChangeSpec := { name := "hullAddPoint", fn := fun _ => fun
  | [d1, d2] => { results := [.lit (.bool false)], args := [d1, d2] }
  | _ => none }
def HullAddPointWrongFalsely : Prop := hullAddPointRow.holds Try.pinned (OpenSpec.ofChange hullAddPointWrong)

/-- 'ambidexterlaw04.HullPartsPreserveArea': WHATEVER THE INPUT: true; the input reads as it did. -/
def hullPartsPreserveAreaSpec : ChangeSpec := { name := "hullPartsPreserveArea", fn := fun _ => fun
  | [d] => { results := [.lit (.bool true)], args := [d] }
  | _ => none }
def hullPartsPreserveAreaRow : OpenClaim := { program := "ytgjaamjbagoieaa", sum := "9600fde45c5f53b9db1ce11694f8e0beed7c91844f0f462a7f0c5bf5fc8d936f", func := "ambidexter/ambidexterlaw04.HullPartsPreserveArea", spec := "hullPartsPreserveArea", unfollowed := true, recurses := true, apart := false }
def HullPartsPreserveAreaSaid : Prop := hullPartsPreserveAreaRow.holds Try.pinned (OpenSpec.ofChange hullPartsPreserveAreaSpec)

/-- ITS FALSE NEIGHBOUR: 'it returns false'. Refute it at one input. -/
def hullPartsPreserveAreaWrong : ChangeSpec := { name := "hullPartsPreserveArea", fn := fun _ => fun
  | [d] => { results := [.lit (.bool false)], args := [d] }
  | _ => none }
def HullPartsPreserveAreaWrongFalsely : Prop := hullPartsPreserveAreaRow.holds Try.pinned (OpenSpec.ofChange hullPartsPreserveAreaWrong)

/-- 'ambidexterlaw04.HullPartsCoverPolygon': WHATEVER THE INPUT: true; the input reads as it did. -/
def hullPartsCoverPolygonSpec : ChangeSpec := { name := "hullPartsCoverPolygon", fn := fun _ => fun
  | [d1, d2] => { results := [.lit (.bool true)], args := [d1, d2] }
  | _ => none }
def hullPartsCoverPolygonRow : OpenClaim := { program := "ytgjaamjbagoieaa", sum := "9600fde45c5f53b9db1ce11694f8e0beed7c91844f0f462a7f0c5bf5fc8d936f", func := "ambidexter/ambidexterlaw04.HullPartsCoverPolygon", spec := "hullPartsCoverPolygon", unfollowed := true, recurses := true, apart := false }
def HullPartsCoverPolygonSaid : Prop := hullPartsCoverPolygonRow.holds Try.pinned (OpenSpec.ofChange hullPartsCoverPolygonSpec)

/-- ITS FALSE NEIGHBOUR: 'it returns false'. Refute it at one input. -/
def hullPartsCoverPolygonWrong : ChangeSpec := { name := "hullPartsCoverPolygon", fn := fun _ => fun
  | [d1, d2] => { results := [.lit (.bool false)], args := [d1, d2] }
  | _ => none }
def HullPartsCoverPolygonWrongFalsely : Prop := hullPartsCoverPolygonRow.holds Try.pinned (OpenSpec.ofChange hullPartsCoverPolygonWrong)

/-- 'ambidexterlaw04.HullTranslated': WHATEVER THE INPUT: true; the input reads as it did. -/
def hullTranslatedSpec : ChangeSpec := { name := "hullTranslated", fn := fun _ => fun
  | [d1, d2, d3] => { results := [.lit (.bool true)], args := [d1, d2, d3] }
  | _ => none }
def hullTranslatedRow : OpenClaim := { program := "ytgjaamjbagoieaa", sum := "9600fde45c5f53b9db1ce11694f8e0beed7c91844f0f462a7f0c5bf5fc8d936f", func := "ambidexter/ambidexterlaw04.HullTranslated", spec := "hullTranslated", unfollowed := true, recurses := true, apart := false }
def HullTranslatedSaid : Prop := hullTranslatedRow.holds Try.pinned (OpenSpec.ofChange hullTranslatedSpec)

/-- ITS FALSE NEIGHBOUR: 'it returns false'. Refute it at one input. -/
def hullTranslatedWrong : ChangeSpec := { name := "hullTranslated", fn := fun _ => fun
  | [d1, d2, d3] => { results := [.lit (.bool false)], args := [d1, d2, d3] }
  | _ => none }
def HullTranslatedWrongFalsely : Prop := hullTranslatedRow.holds Try.pinned (OpenSpec.ofChange hullTranslatedWrong)

/- THE SECOND FORM. 'bulk': how many values and letters a reading holds, each counted each time it is reached (what is shared counts as often as it is met; a slice's spare places count too). A statement '..UptoSaid' is the law's where the arguments, and the package variables that the reading takes, are together of bulk at most 1048576: NARROWER than '..Said'. Prove '..Said' where nothing that the law and all that it calls make is longer than what came in: it says more and counts as full. Else prove '..UptoSaid'. A law counts once. -/
mutual
def uptoBulk {H : Type} : DataW H → Nat
  | .lit (.string bytes) => bytes.length + 1
  | .lit _ => 1
  | .nil => 1
  | .ptr d => uptoBulk d + 1
  | .slice elems spare => uptoBulkAll elems + uptoBulkAll spare + 1
  | .agg parts => uptoBulkAll parts + 1
  | .iface _ d => uptoBulk d + 1
  | .map entries => uptoBulkEntries entries + 1
  | .held _ => 1
def uptoBulkAll {H : Type} : List (DataW H) → Nat
  | [] => 0
  | d :: r => uptoBulk d + uptoBulkAll r
def uptoBulkEntries {H : Type} : List (Lit × DataW H) → Nat
  | [] => 0
  | x :: r => uptoBulkEntry x + uptoBulkEntries r
def uptoBulkEntry {H : Type} : Lit × DataW H → Nat
  | (.string bytes, d) => bytes.length + uptoBulk d + 1
  | (_, d) => uptoBulk d + 1
 end
def uptoSmall : (H : Type) → List (DataW H) → Bool := fun _ ds => decide (uptoBulkAll ds ≤ 1048576)
def OpenSpec.upto (s : _root_.Go.ChangeSpec) : _root_.Go.OpenSpec := { _root_.Go.OpenSpec.ofChange s with cond := some uptoSmall }

/-- 'ambidexterlaw04.HullMatchesReference', WHERE WHAT IT READS IS OF BULK AT MOST 1048576: true; the input reads as it did. -/
def hullMatchesReferenceUptoRow : OpenClaim := { program := "ytgjaamjbagoieaa", sum := "9600fde45c5f53b9db1ce11694f8e0beed7c91844f0f462a7f0c5bf5fc8d936f", func := "ambidexter/ambidexterlaw04.HullMatchesReference", spec := "hullMatchesReference", unfollowed := true, recurses := true, apart := false, narrowed := true }
def HullMatchesReferenceUptoSaid : Prop := hullMatchesReferenceUptoRow.holds Try.pinned (OpenSpec.upto hullMatchesReferenceSpec)

/-- 'ambidexterlaw04.HullContainsInput', WHERE WHAT IT READS IS OF BULK AT MOST 1048576: true; the input reads as it did. -/
def hullContainsInputUptoRow : OpenClaim := { program := "ytgjaamjbagoieaa", sum := "9600fde45c5f53b9db1ce11694f8e0beed7c91844f0f462a7f0c5bf5fc8d936f", func := "ambidexter/ambidexterlaw04.HullContainsInput", spec := "hullContainsInput", unfollowed := true, recurses := true, apart := false, narrowed := true }
def HullContainsInputUptoSaid : Prop := hullContainsInputUptoRow.holds Try.pinned (OpenSpec.upto hullContainsInputSpec)

/-- 'ambidexterlaw04.HullCanonical', WHERE WHAT IT READS IS OF BULK AT MOST 1048576: true; the input reads as it did. -/
def hullCanonicalUptoRow : OpenClaim := { program := "ytgjaamjbagoieaa", sum := "9600fde45c5f53b9db1ce11694f8e0beed7c91844f0f462a7f0c5bf5fc8d936f", func := "ambidexter/ambidexterlaw04.HullCanonical", spec := "hullCanonical", unfollowed := true, recurses := true, apart := false, narrowed := true }
def HullCanonicalUptoSaid : Prop := hullCanonicalUptoRow.holds Try.pinned (OpenSpec.upto hullCanonicalSpec)

/-- 'ambidexterlaw04.HullAddPoint', WHERE WHAT IT READS IS OF BULK AT MOST 1048576: true; the input reads as it did. -/
def hullAddPointUptoRow : OpenClaim := { program := "ytgjaamjbagoieaa", sum := "9600fde45c5f53b9db1ce11694f8e0beed7c91844f0f462a7f0c5bf5fc8d936f", func := "ambidexter/ambidexterlaw04.HullAddPoint", spec := "hullAddPoint", unfollowed := true, recurses := true, apart := false, narrowed := true }
def HullAddPointUptoSaid : Prop := hullAddPointUptoRow.holds Try.pinned (OpenSpec.upto hullAddPointSpec)

/-- 'ambidexterlaw04.HullPartsPreserveArea', WHERE WHAT IT READS IS OF BULK AT MOST 1048576: true; the input reads as it did. -/
def hullPartsPreserveAreaUptoRow : OpenClaim := { program := "ytgjaamjbagoieaa", sum := "9600fde45c5f53b9db1ce11694f8e0beed7c91844f0f462a7f0c5bf5fc8d936f", func := "ambidexter/ambidexterlaw04.HullPartsPreserveArea", spec := "hullPartsPreserveArea", unfollowed := true, recurses := true, apart := false, narrowed := true }
def HullPartsPreserveAreaUptoSaid : Prop := hullPartsPreserveAreaUptoRow.holds Try.pinned (OpenSpec.upto hullPartsPreserveAreaSpec)

/-- 'ambidexterlaw04.HullPartsCoverPolygon', WHERE WHAT IT READS IS OF BULK AT MOST 1048576: true; the input reads as it did. -/
def hullPartsCoverPolygonUptoRow : OpenClaim := { program := "ytgjaamjbagoieaa", sum := "9600fde45c5f53b9db1ce11694f8e0beed7c91844f0f462a7f0c5bf5fc8d936f", func := "ambidexter/ambidexterlaw04.HullPartsCoverPolygon", spec := "hullPartsCoverPolygon", unfollowed := true, recurses := true, apart := false, narrowed := true }
def HullPartsCoverPolygonUptoSaid : Prop := hullPartsCoverPolygonUptoRow.holds Try.pinned (OpenSpec.upto hullPartsCoverPolygonSpec)

/-- 'ambidexterlaw04.HullTranslated', WHERE WHAT IT READS IS OF BULK AT MOST 1048576: true; the input reads as it did. -/
def hullTranslatedUptoRow : OpenClaim := { program := "ytgjaamjbagoieaa", sum := "9600fde45c5f53b9db1ce11694f8e0beed7c91844f0f462a7f0c5bf5fc8d936f", func := "ambidexter/ambidexterlaw04.HullTranslated", spec := "hullTranslated", unfollowed := true, recurses := true, apart := false, narrowed := true }
def HullTranslatedUptoSaid : Prop := hullTranslatedUptoRow.holds Try.pinned (OpenSpec.upto hullTranslatedSpec)

end Rows
end Go.Proofs.Ytgjaamjbagoieaa
