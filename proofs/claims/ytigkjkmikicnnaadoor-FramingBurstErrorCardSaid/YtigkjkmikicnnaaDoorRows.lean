/-
  NARROWER THAN 'FOR EVERY INPUT', by the rows' own cells (each row's printed sentence says how): FramingMatchesReference: laid · FramingRoundTrip: laid · FramingResynchronization: laid · FramingStreaming: laid · FramingBurstError: laid · FramingLengthError: laid · FramingOnlyFrames: laid.
  DERIVED. THE GIVEN ROWS OF THIS SEAT. 7 by the template 'for every input the law returns true; each argument reads behind the call as it read before'; 0 by the template 'total and deterministic' (their statements: YtigkjkmikicnnaaDoorTotals.lean).
  GIVEN WITH THE SEED: the statements are not yours to turn. If you find one false, say at which input.
  Laid BY PROGRAM, IN A SANDBOX (cutbox-rows.mjs): the forced cells as the released guide's own fill.sh prints them over the translation b619ed89ab4d8832… (all of the seat's roots in one cut). By AI agents, Wed Nov 11 2026. No macro, syntax, notation, axiom, sorry.
-/
import Derived.Test.YtigkjkmikicnnaaDoorChecked
import GoSem.PinnedTables
import GoSem.Claim
import GoSem.ClaimJoined
import GoSem.ClaimMapViews
import Derived.JoinedTies
import Derived.KernelRfl
namespace Go.Proofs.YtigkjkmikicnnaaDoor
/- THE CELL 'sum', in the pinned program and in every row, IS THE sha256 OF THE DUMP (.gsa) THAT YtigkjkmikicnnaaDoorProg.lean LOADS. Nothing in Lean hashes anything: it is a label: what it is worth is what the hold of that sum in a sandbox is worth. -/
noncomputable def Tryd.pinned : Pinned := { name := "ytigkjkmikicnnaadoor", sum := "b619ed89ab4d8832f41406138207e1da5dd502d229ce4d71713a17c71cdb5a25", checked := Tryd.checked }
namespace Rows
def none {H : Type} : Left H := { results := [], args := [] }

/- WHAT THE LISTED PACKAGE-LEVEL VARIABLES READ AS WHEN THE CALL BEGINS. Each datum BY PROGRAM (the guide's laid-datum.mjs) off the statement by which the dump's own 'gosem.cut.vars' lays the variable. In a bare row this is a premise. The card (YtigkjkmikicnnaaDoorCards.lean) ties it to the program's text. -/
def laid_unicode_utf8_acceptRanges {H : Type} : DataW H := .agg [.agg [.lit (.int .u8 128), .lit (.int .u8 191)], .agg [.lit (.int .u8 160), .lit (.int .u8 191)], .agg [.lit (.int .u8 128), .lit (.int .u8 159)], .agg [.lit (.int .u8 144), .lit (.int .u8 191)], .agg [.lit (.int .u8 128), .lit (.int .u8 143)], .agg [.lit (.int .u8 0), .lit (.int .u8 0)], .agg [.lit (.int .u8 0), .lit (.int .u8 0)], .agg [.lit (.int .u8 0), .lit (.int .u8 0)], .agg [.lit (.int .u8 0), .lit (.int .u8 0)], .agg [.lit (.int .u8 0), .lit (.int .u8 0)], .agg [.lit (.int .u8 0), .lit (.int .u8 0)], .agg [.lit (.int .u8 0), .lit (.int .u8 0)], .agg [.lit (.int .u8 0), .lit (.int .u8 0)], .agg [.lit (.int .u8 0), .lit (.int .u8 0)], .agg [.lit (.int .u8 0), .lit (.int .u8 0)], .agg [.lit (.int .u8 0), .lit (.int .u8 0)]]
/-- One of Go's own tables, pinned by name: the form's constant. -/
def laid_unicode_utf8_first : DataW Unit := Go.Pinned.utf8First

/-- 'ambidexterlaw32.FramingMatchesReference': WHATEVER THE INPUT: true; the input reads as it did. -/
def framingMatchesReferenceSpec : ChangeSpec := { name := "framingMatchesReference", fn := fun _ => fun
  | [d1, d2] => { results := [.lit (.bool true)], args := [d1, d2] }
  | _ => none }
def framingMatchesReferenceRow : OpenClaim := { program := "ytigkjkmikicnnaadoor", sum := "b619ed89ab4d8832f41406138207e1da5dd502d229ce4d71713a17c71cdb5a25", func := "ambidexter/ambidexterlaw32.FramingMatchesReference", spec := "framingMatchesReference", inPlace := ["internal/bytealg.Count", "internal/bytealg.IndexByte", "internal/bytealg.Index"], unfollowed := true, recurses := true, named := ["unicode/utf8.first", "unicode/utf8.acceptRanges", "internal/bytealg.MaxLen"], apart := false, laid := [("unicode/utf8.acceptRanges", laid_unicode_utf8_acceptRanges), ("unicode/utf8.first", laid_unicode_utf8_first)] }
def FramingMatchesReferenceSaid : Prop := framingMatchesReferenceRow.holds Tryd.pinned (OpenSpec.ofChange framingMatchesReferenceSpec)

/-- ITS FALSE NEIGHBOUR: 'it returns false'. Refute it at one input. -/
def framingMatchesReferenceWrong : ChangeSpec := { name := "framingMatchesReference", fn := fun _ => fun
  | [d1, d2] => { results := [.lit (.bool false)], args := [d1, d2] }
  | _ => none }
def FramingMatchesReferenceWrongFalsely : Prop := framingMatchesReferenceRow.holds Tryd.pinned (OpenSpec.ofChange framingMatchesReferenceWrong)

/-- 'ambidexterlaw32.FramingRoundTrip': WHATEVER THE INPUT: true; the input reads as it did. -/
def framingRoundTripSpec : ChangeSpec := { name := "framingRoundTrip", fn := fun _ => fun
  | [d] => { results := [.lit (.bool true)], args := [d] }
  | _ => none }
def framingRoundTripRow : OpenClaim := { program := "ytigkjkmikicnnaadoor", sum := "b619ed89ab4d8832f41406138207e1da5dd502d229ce4d71713a17c71cdb5a25", func := "ambidexter/ambidexterlaw32.FramingRoundTrip", spec := "framingRoundTrip", inPlace := ["internal/bytealg.Count", "internal/bytealg.IndexByte", "internal/bytealg.Index"], unfollowed := true, recurses := true, named := ["unicode/utf8.first", "unicode/utf8.acceptRanges", "internal/bytealg.MaxLen"], apart := false, laid := [("unicode/utf8.acceptRanges", laid_unicode_utf8_acceptRanges), ("unicode/utf8.first", laid_unicode_utf8_first)] }
def FramingRoundTripSaid : Prop := framingRoundTripRow.holds Tryd.pinned (OpenSpec.ofChange framingRoundTripSpec)

/-- ITS FALSE NEIGHBOUR: 'it returns false'. Refute it at one input. -/
def framingRoundTripWrong : ChangeSpec := { name := "framingRoundTrip", fn := fun _ => fun
  | [d] => { results := [.lit (.bool false)], args := [d] }
  | _ => none }
def FramingRoundTripWrongFalsely : Prop := framingRoundTripRow.holds Tryd.pinned (OpenSpec.ofChange framingRoundTripWrong)

/-- 'ambidexterlaw32.FramingResynchronization': WHATEVER THE INPUT: true; the input reads as it did. -/
def framingResynchronizationSpec : ChangeSpec := { name := "framingResynchronization", fn := fun _ => fun
  | [d1, d2] => { results := [.lit (.bool true)], args := [d1, d2] }
  | _ => none }
def framingResynchronizationRow : OpenClaim := { program := "ytigkjkmikicnnaadoor", sum := "b619ed89ab4d8832f41406138207e1da5dd502d229ce4d71713a17c71cdb5a25", func := "ambidexter/ambidexterlaw32.FramingResynchronization", spec := "framingResynchronization", inPlace := ["internal/bytealg.Count", "internal/bytealg.IndexByte", "internal/bytealg.Index"], unfollowed := true, recurses := true, named := ["unicode/utf8.first", "unicode/utf8.acceptRanges", "internal/bytealg.MaxLen"], apart := false, laid := [("unicode/utf8.acceptRanges", laid_unicode_utf8_acceptRanges), ("unicode/utf8.first", laid_unicode_utf8_first)] }
def FramingResynchronizationSaid : Prop := framingResynchronizationRow.holds Tryd.pinned (OpenSpec.ofChange framingResynchronizationSpec)

/-- ITS FALSE NEIGHBOUR: 'it returns false'. Refute it at one input. -/
def framingResynchronizationWrong : ChangeSpec := { name := "framingResynchronization", fn := fun _ => fun
  | [d1, d2] => { results := [.lit (.bool false)], args := [d1, d2] }
  | _ => none }
def FramingResynchronizationWrongFalsely : Prop := framingResynchronizationRow.holds Tryd.pinned (OpenSpec.ofChange framingResynchronizationWrong)

/-- 'ambidexterlaw32.FramingStreaming': WHATEVER THE INPUT: true; the input reads as it did. -/
def framingStreamingSpec : ChangeSpec := { name := "framingStreaming", fn := fun _ => fun
  | [d1, d2, d3] => { results := [.lit (.bool true)], args := [d1, d2, d3] }
  | _ => none }
def framingStreamingRow : OpenClaim := { program := "ytigkjkmikicnnaadoor", sum := "b619ed89ab4d8832f41406138207e1da5dd502d229ce4d71713a17c71cdb5a25", func := "ambidexter/ambidexterlaw32.FramingStreaming", spec := "framingStreaming", inPlace := ["internal/bytealg.Count", "internal/bytealg.IndexByte", "internal/bytealg.Index"], unfollowed := true, recurses := true, named := ["unicode/utf8.first", "unicode/utf8.acceptRanges", "internal/bytealg.MaxLen"], apart := false, laid := [("unicode/utf8.acceptRanges", laid_unicode_utf8_acceptRanges), ("unicode/utf8.first", laid_unicode_utf8_first)] }
def FramingStreamingSaid : Prop := framingStreamingRow.holds Tryd.pinned (OpenSpec.ofChange framingStreamingSpec)

/-- ITS FALSE NEIGHBOUR: 'it returns false'. Refute it at one input. -/
def framingStreamingWrong : ChangeSpec := { name := "framingStreaming", fn := fun _ => fun
  | [d1, d2, d3] => { results := [.lit (.bool false)], args := [d1, d2, d3] }
  | _ => none }
def FramingStreamingWrongFalsely : Prop := framingStreamingRow.holds Tryd.pinned (OpenSpec.ofChange framingStreamingWrong)

/-- 'ambidexterlaw32.FramingBurstError': WHATEVER THE INPUT: true; the input reads as it did. -/
def framingBurstErrorSpec : ChangeSpec := { name := "framingBurstError", fn := fun _ => fun
  | [d1, d2, d3, d4] => { results := [.lit (.bool true)], args := [d1, d2, d3, d4] }
  | _ => none }
def framingBurstErrorRow : OpenClaim := { program := "ytigkjkmikicnnaadoor", sum := "b619ed89ab4d8832f41406138207e1da5dd502d229ce4d71713a17c71cdb5a25", func := "ambidexter/ambidexterlaw32.FramingBurstError", spec := "framingBurstError", inPlace := ["internal/bytealg.Count", "internal/bytealg.IndexByte", "internal/bytealg.Index"], unfollowed := true, recurses := true, named := ["unicode/utf8.first", "unicode/utf8.acceptRanges", "internal/bytealg.MaxLen"], apart := false, laid := [("unicode/utf8.acceptRanges", laid_unicode_utf8_acceptRanges), ("unicode/utf8.first", laid_unicode_utf8_first)] }
def FramingBurstErrorSaid : Prop := framingBurstErrorRow.holds Tryd.pinned (OpenSpec.ofChange framingBurstErrorSpec)

/-- ITS FALSE NEIGHBOUR: 'it returns false'. Refute it at one input. -/
def framingBurstErrorWrong : ChangeSpec := { name := "framingBurstError", fn := fun _ => fun
  | [d1, d2, d3, d4] => { results := [.lit (.bool false)], args := [d1, d2, d3, d4] }
  | _ => none }
def FramingBurstErrorWrongFalsely : Prop := framingBurstErrorRow.holds Tryd.pinned (OpenSpec.ofChange framingBurstErrorWrong)

/-- 'ambidexterlaw32.FramingLengthError': WHATEVER THE INPUT: true; the input reads as it did. -/
def framingLengthErrorSpec : ChangeSpec := { name := "framingLengthError", fn := fun _ => fun
  | [d1, d2, d3] => { results := [.lit (.bool true)], args := [d1, d2, d3] }
  | _ => none }
def framingLengthErrorRow : OpenClaim := { program := "ytigkjkmikicnnaadoor", sum := "b619ed89ab4d8832f41406138207e1da5dd502d229ce4d71713a17c71cdb5a25", func := "ambidexter/ambidexterlaw32.FramingLengthError", spec := "framingLengthError", inPlace := ["internal/bytealg.Count", "internal/bytealg.IndexByte", "internal/bytealg.Index"], unfollowed := true, recurses := true, named := ["unicode/utf8.first", "unicode/utf8.acceptRanges", "internal/bytealg.MaxLen"], apart := false, laid := [("unicode/utf8.acceptRanges", laid_unicode_utf8_acceptRanges), ("unicode/utf8.first", laid_unicode_utf8_first)] }
def FramingLengthErrorSaid : Prop := framingLengthErrorRow.holds Tryd.pinned (OpenSpec.ofChange framingLengthErrorSpec)

/-- ITS FALSE NEIGHBOUR: 'it returns false'. Refute it at one input. -/
def framingLengthErrorWrong : ChangeSpec := { name := "framingLengthError", fn := fun _ => fun
  | [d1, d2, d3] => { results := [.lit (.bool false)], args := [d1, d2, d3] }
  | _ => none }
def FramingLengthErrorWrongFalsely : Prop := framingLengthErrorRow.holds Tryd.pinned (OpenSpec.ofChange framingLengthErrorWrong)

/-- 'ambidexterlaw32.FramingOnlyFrames': WHATEVER THE INPUT: true; the input reads as it did. -/
def framingOnlyFramesSpec : ChangeSpec := { name := "framingOnlyFrames", fn := fun _ => fun
  | [d] => { results := [.lit (.bool true)], args := [d] }
  | _ => none }
def framingOnlyFramesRow : OpenClaim := { program := "ytigkjkmikicnnaadoor", sum := "b619ed89ab4d8832f41406138207e1da5dd502d229ce4d71713a17c71cdb5a25", func := "ambidexter/ambidexterlaw32.FramingOnlyFrames", spec := "framingOnlyFrames", inPlace := ["internal/bytealg.Count", "internal/bytealg.IndexByte", "internal/bytealg.Index"], unfollowed := true, recurses := true, named := ["unicode/utf8.first", "unicode/utf8.acceptRanges", "internal/bytealg.MaxLen"], apart := false, laid := [("unicode/utf8.acceptRanges", laid_unicode_utf8_acceptRanges), ("unicode/utf8.first", laid_unicode_utf8_first)] }
def FramingOnlyFramesSaid : Prop := framingOnlyFramesRow.holds Tryd.pinned (OpenSpec.ofChange framingOnlyFramesSpec)

/-- ITS FALSE NEIGHBOUR: 'it returns false'. Refute it at one input. -/
def framingOnlyFramesWrong : ChangeSpec := { name := "framingOnlyFrames", fn := fun _ => fun
  | [d] => { results := [.lit (.bool false)], args := [d] }
  | _ => none }
def FramingOnlyFramesWrongFalsely : Prop := framingOnlyFramesRow.holds Tryd.pinned (OpenSpec.ofChange framingOnlyFramesWrong)

/- THE SECOND FORM. 'bulk': how many values and letters a reading holds, each counted each time it is reached (what is shared counts as often as it is met; a slice's spare places count too). A statement '..UptoSaid' is the law's where the arguments, and the package variables that the reading takes, are together of bulk at most 1048576: NARROWER than '..Said'. Prove '..Said' where nothing that the law and all that it calls make is longer than what came in: it says more and counts as full. Else prove '..UptoSaid'. A law counts once. -/
mutual
def uptoBulk {H : Type} : DataW H → Nat
  | .lit (.string bytes) => bytes.length + 1
  | .lit _ => 1
  | .nil => 1
  | .ptr d => uptoBulk d + 1
  | .slice elems spare => uptoBulkAll elems + uptoBulkAll spare + 1
  | .agg parts => uptoBulkAll parts + 1
  | .iface _ d => uptoBulk d + 1
  | .map entries => uptoBulkEntries entries + 1
  | .held _ => 1
def uptoBulkAll {H : Type} : List (DataW H) → Nat
  | [] => 0
  | d :: r => uptoBulk d + uptoBulkAll r
def uptoBulkEntries {H : Type} : List (Lit × DataW H) → Nat
  | [] => 0
  | x :: r => uptoBulkEntry x + uptoBulkEntries r
def uptoBulkEntry {H : Type} : Lit × DataW H → Nat
  | (.string bytes, d) => bytes.length + uptoBulk d + 1
  | (_, d) => uptoBulk d + 1
 end
def uptoSmall : (H : Type) → List (DataW H) → Bool := fun _ ds => decide (uptoBulkAll ds ≤ 1048576)
def OpenSpec.upto (s : _root_.Go.ChangeSpec) : _root_.Go.OpenSpec := { _root_.Go.OpenSpec.ofChange s with cond := some uptoSmall }

/-- 'ambidexterlaw32.FramingMatchesReference', WHERE WHAT IT READS IS OF BULK AT MOST 1048576: true; the input reads as it did. -/
def framingMatchesReferenceUptoRow : OpenClaim := { program := "ytigkjkmikicnnaadoor", sum := "b619ed89ab4d8832f41406138207e1da5dd502d229ce4d71713a17c71cdb5a25", func := "ambidexter/ambidexterlaw32.FramingMatchesReference", spec := "framingMatchesReference", inPlace := ["internal/bytealg.Count", "internal/bytealg.IndexByte", "internal/bytealg.Index"], unfollowed := true, recurses := true, named := ["unicode/utf8.first", "unicode/utf8.acceptRanges", "internal/bytealg.MaxLen"], apart := false, laid := [("unicode/utf8.acceptRanges", laid_unicode_utf8_acceptRanges), ("unicode/utf8.first", laid_unicode_utf8_first)], narrowed := true }
def FramingMatchesReferenceUptoSaid : Prop := framingMatchesReferenceUptoRow.holds Tryd.pinned (OpenSpec.upto framingMatchesReferenceSpec)

/-- 'ambidexterlaw32.FramingRoundTrip', WHERE WHAT IT READS IS OF BULK AT MOST 1048576: true; the input reads as it did. -/
def framingRoundTripUptoRow : OpenClaim := { program := "ytigkjkmikicnnaadoor", sum := "b619ed89ab4d8832f41406138207e1da5dd502d229ce4d71713a17c71cdb5a25", func := "ambidexter/ambidexterlaw32.FramingRoundTrip", spec := "framingRoundTrip", inPlace := ["internal/bytealg.Count", "internal/bytealg.IndexByte", "internal/bytealg.Index"], unfollowed := true, recurses := true, named := ["unicode/utf8.first", "unicode/utf8.acceptRanges", "internal/bytealg.MaxLen"], apart := false, laid := [("unicode/utf8.acceptRanges", laid_unicode_utf8_acceptRanges), ("unicode/utf8.first", laid_unicode_utf8_first)], narrowed := true }
def FramingRoundTripUptoSaid : Prop := framingRoundTripUptoRow.holds Tryd.pinned (OpenSpec.upto framingRoundTripSpec)

/-- 'ambidexterlaw32.FramingResynchronization', WHERE WHAT IT READS IS OF BULK AT MOST 1048576: true; the input reads as it did. -/
def framingResynchronizationUptoRow : OpenClaim := { program := "ytigkjkmikicnnaadoor", sum := "b619ed89ab4d8832f41406138207e1da5dd502d229ce4d71713a17c71cdb5a25", func := "ambidexter/ambidexterlaw32.FramingResynchronization", spec := "framingResynchronization", inPlace := ["internal/bytealg.Count", "internal/bytealg.IndexByte", "internal/bytealg.Index"], unfollowed := true, recurses := true, named := ["unicode/utf8.first", "unicode/utf8.acceptRanges", "internal/bytealg.MaxLen"], apart := false, laid := [("unicode/utf8.acceptRanges", laid_unicode_utf8_acceptRanges), ("unicode/utf8.first", laid_unicode_utf8_first)], narrowed := true }
def FramingResynchronizationUptoSaid : Prop := framingResynchronizationUptoRow.holds Tryd.pinned (OpenSpec.upto framingResynchronizationSpec)

/-- 'ambidexterlaw32.FramingStreaming', WHERE WHAT IT READS IS OF BULK AT MOST 1048576: true; the input reads as it did. -/
def framingStreamingUptoRow : OpenClaim := { program := "ytigkjkmikicnnaadoor", sum := "b619ed89ab4d8832f41406138207e1da5dd502d229ce4d71713a17c71cdb5a25", func := "ambidexter/ambidexterlaw32.FramingStreaming", spec := "framingStreaming", inPlace := ["internal/bytealg.Count", "internal/bytealg.IndexByte", "internal/bytealg.Index"], unfollowed := true, recurses := true, named := ["unicode/utf8.first", "unicode/utf8.acceptRanges", "internal/bytealg.MaxLen"], apart := false, laid := [("unicode/utf8.acceptRanges", laid_unicode_utf8_acceptRanges), ("unicode/utf8.first", laid_unicode_utf8_first)], narrowed := true }
def FramingStreamingUptoSaid : Prop := framingStreamingUptoRow.holds Tryd.pinned (OpenSpec.upto framingStreamingSpec)

/-- 'ambidexterlaw32.FramingBurstError', WHERE WHAT IT READS IS OF BULK AT MOST 1048576: true; the input reads as it did. -/
def framingBurstErrorUptoRow : OpenClaim := { program := "ytigkjkmikicnnaadoor", sum := "b619ed89ab4d8832f41406138207e1da5dd502d229ce4d71713a17c71cdb5a25", func := "ambidexter/ambidexterlaw32.FramingBurstError", spec := "framingBurstError", inPlace := ["internal/bytealg.Count", "internal/bytealg.IndexByte", "internal/bytealg.Index"], unfollowed := true, recurses := true, named := ["unicode/utf8.first", "unicode/utf8.acceptRanges", "internal/bytealg.MaxLen"], apart := false, laid := [("unicode/utf8.acceptRanges", laid_unicode_utf8_acceptRanges), ("unicode/utf8.first", laid_unicode_utf8_first)], narrowed := true }
def FramingBurstErrorUptoSaid : Prop := framingBurstErrorUptoRow.holds Tryd.pinned (OpenSpec.upto framingBurstErrorSpec)

/-- 'ambidexterlaw32.FramingLengthError', WHERE WHAT IT READS IS OF BULK AT MOST 1048576: true; the input reads as it did. -/
def framingLengthErrorUptoRow : OpenClaim := { program := "ytigkjkmikicnnaadoor", sum := "b619ed89ab4d8832f41406138207e1da5dd502d229ce4d71713a17c71cdb5a25", func := "ambidexter/ambidexterlaw32.FramingLengthError", spec := "framingLengthError", inPlace := ["internal/bytealg.Count", "internal/bytealg.IndexByte", "internal/bytealg.Index"], unfollowed := true, recurses := true, named := ["unicode/utf8.first", "unicode/utf8.acceptRanges", "internal/bytealg.MaxLen"], apart := false, laid := [("unicode/utf8.acceptRanges", laid_unicode_utf8_acceptRanges), ("unicode/utf8.first", laid_unicode_utf8_first)], narrowed := true }
def FramingLengthErrorUptoSaid : Prop := framingLengthErrorUptoRow.holds Tryd.pinned (OpenSpec.upto framingLengthErrorSpec)

/-- 'ambidexterlaw32.FramingOnlyFrames', WHERE WHAT IT READS IS OF BULK AT MOST 1048576: true; the input reads as it did. -/
def framingOnlyFramesUptoRow : OpenClaim := { program := "ytigkjkmikicnnaadoor", sum := "b619ed89ab4d8832f41406138207e1da5dd502d229ce4d71713a17c71cdb5a25", func := "ambidexter/ambidexterlaw32.FramingOnlyFrames", spec := "framingOnlyFrames", inPlace := ["internal/bytealg.Count", "internal/bytealg.IndexByte", "internal/bytealg.Index"], unfollowed := true, recurses := true, named := ["unicode/utf8.first", "unicode/utf8.acceptRanges", "internal/bytealg.MaxLen"], apart := false, laid := [("unicode/utf8.acceptRanges", laid_unicode_utf8_acceptRanges), ("unicode/utf8.first", laid_unicode_utf8_first)], narrowed := true }
def FramingOnlyFramesUptoSaid : Prop := framingOnlyFramesUptoRow.holds Tryd.pinned (OpenSpec.upto framingOnlyFramesSpec)

end Rows
end Go.Proofs.YtigkjkmikicnnaaDoor
