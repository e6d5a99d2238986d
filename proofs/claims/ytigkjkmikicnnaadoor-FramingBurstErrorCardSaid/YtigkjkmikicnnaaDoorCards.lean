/-
  DERIVED. GIVEN WITH THE SEED: THE CARDS: each row of YtigkjkmikicnnaaDoorRows.lean that lists a variable, with what it lists TIED to the program's text (the seventh form; the later family's looks); each row that meets fmt, with fmt's text TOLD by the authors' own Lean function (tested against real Go, not proved from fmt's source: count such statements apart). THE CARD IS WHAT COUNTS. Prove the row's statement (the work); the ties are given (YtigkjkmikicnnaaDoorTie.lean); close each card by the builder's one call (the guide's Derived/Test/ToyasCard.lean, 'card_holds'). Laid BY PROGRAM, IN A SANDBOX (cutbox-door.mjs). By AI agents, Wed Nov 11 2026. No macro, syntax, notation, axiom, sorry.
-/
import Derived.Test.YtigkjkmikicnnaaDoorRows
import GoSem.ClaimSeven
namespace Go.Proofs.YtigkjkmikicnnaaDoor
namespace Rows

/-- THE TIED CARD OF 'ambidexterlaw32.FramingMatchesReference'. -/
def framingMatchesReferenceCard : Claim7 := { stood := { row := framingMatchesReferenceRow, standIns := [], harness := (true, "ca4dbb8c8eefa2c4fddf0fc8a0892f43bd1f77831ff2712f8e54d0944963bed3"), looks := false }, kinds := [], alts := [], laidByText := true, laidKinds := [.data, .pinned], laidTests := true, laidLooks := .later }
def FramingMatchesReferenceCardSaid : Prop := Claim7.holds Tryd.pinned (.plain (OpenSpec.ofChange framingMatchesReferenceSpec)) framingMatchesReferenceCard

/-- THE TIED CARD OF 'ambidexterlaw32.FramingRoundTrip'. -/
def framingRoundTripCard : Claim7 := { stood := { row := framingRoundTripRow, standIns := [], harness := (true, "ca4dbb8c8eefa2c4fddf0fc8a0892f43bd1f77831ff2712f8e54d0944963bed3"), looks := false }, kinds := [], alts := [], laidByText := true, laidKinds := [.data, .pinned], laidTests := true, laidLooks := .later }
def FramingRoundTripCardSaid : Prop := Claim7.holds Tryd.pinned (.plain (OpenSpec.ofChange framingRoundTripSpec)) framingRoundTripCard

/-- THE TIED CARD OF 'ambidexterlaw32.FramingResynchronization'. -/
def framingResynchronizationCard : Claim7 := { stood := { row := framingResynchronizationRow, standIns := [], harness := (true, "ca4dbb8c8eefa2c4fddf0fc8a0892f43bd1f77831ff2712f8e54d0944963bed3"), looks := false }, kinds := [], alts := [], laidByText := true, laidKinds := [.data, .pinned], laidTests := true, laidLooks := .later }
def FramingResynchronizationCardSaid : Prop := Claim7.holds Tryd.pinned (.plain (OpenSpec.ofChange framingResynchronizationSpec)) framingResynchronizationCard

/-- THE TIED CARD OF 'ambidexterlaw32.FramingStreaming'. -/
def framingStreamingCard : Claim7 := { stood := { row := framingStreamingRow, standIns := [], harness := (true, "ca4dbb8c8eefa2c4fddf0fc8a0892f43bd1f77831ff2712f8e54d0944963bed3"), looks := false }, kinds := [], alts := [], laidByText := true, laidKinds := [.data, .pinned], laidTests := true, laidLooks := .later }
def FramingStreamingCardSaid : Prop := Claim7.holds Tryd.pinned (.plain (OpenSpec.ofChange framingStreamingSpec)) framingStreamingCard

/-- THE TIED CARD OF 'ambidexterlaw32.FramingBurstError'. -/
def framingBurstErrorCard : Claim7 := { stood := { row := framingBurstErrorRow, standIns := [], harness := (true, "ca4dbb8c8eefa2c4fddf0fc8a0892f43bd1f77831ff2712f8e54d0944963bed3"), looks := false }, kinds := [], alts := [], laidByText := true, laidKinds := [.data, .pinned], laidTests := true, laidLooks := .later }
def FramingBurstErrorCardSaid : Prop := Claim7.holds Tryd.pinned (.plain (OpenSpec.ofChange framingBurstErrorSpec)) framingBurstErrorCard

/-- THE TIED CARD OF 'ambidexterlaw32.FramingLengthError'. -/
def framingLengthErrorCard : Claim7 := { stood := { row := framingLengthErrorRow, standIns := [], harness := (true, "ca4dbb8c8eefa2c4fddf0fc8a0892f43bd1f77831ff2712f8e54d0944963bed3"), looks := false }, kinds := [], alts := [], laidByText := true, laidKinds := [.data, .pinned], laidTests := true, laidLooks := .later }
def FramingLengthErrorCardSaid : Prop := Claim7.holds Tryd.pinned (.plain (OpenSpec.ofChange framingLengthErrorSpec)) framingLengthErrorCard

/-- THE TIED CARD OF 'ambidexterlaw32.FramingOnlyFrames'. -/
def framingOnlyFramesCard : Claim7 := { stood := { row := framingOnlyFramesRow, standIns := [], harness := (true, "ca4dbb8c8eefa2c4fddf0fc8a0892f43bd1f77831ff2712f8e54d0944963bed3"), looks := false }, kinds := [], alts := [], laidByText := true, laidKinds := [.data, .pinned], laidTests := true, laidLooks := .later }
def FramingOnlyFramesCardSaid : Prop := Claim7.holds Tryd.pinned (.plain (OpenSpec.ofChange framingOnlyFramesSpec)) framingOnlyFramesCard

/-- THE SECOND FORM's CARD OF 'ambidexterlaw32.FramingMatchesReference'. -/
def framingMatchesReferenceUptoCard : Claim7 := { stood := { row := framingMatchesReferenceUptoRow, standIns := [], harness := (true, "ca4dbb8c8eefa2c4fddf0fc8a0892f43bd1f77831ff2712f8e54d0944963bed3"), looks := false }, kinds := [], alts := [], laidByText := true, laidKinds := [.data, .pinned], laidTests := true, laidLooks := .later }
def FramingMatchesReferenceUptoCardSaid : Prop := Claim7.holds Tryd.pinned (.plain (OpenSpec.upto framingMatchesReferenceSpec)) framingMatchesReferenceUptoCard

/-- THE SECOND FORM's CARD OF 'ambidexterlaw32.FramingRoundTrip'. -/
def framingRoundTripUptoCard : Claim7 := { stood := { row := framingRoundTripUptoRow, standIns := [], harness := (true, "ca4dbb8c8eefa2c4fddf0fc8a0892f43bd1f77831ff2712f8e54d0944963bed3"), looks := false }, kinds := [], alts := [], laidByText := true, laidKinds := [.data, .pinned], laidTests := true, laidLooks := .later }
def FramingRoundTripUptoCardSaid : Prop := Claim7.holds Tryd.pinned (.plain (OpenSpec.upto framingRoundTripSpec)) framingRoundTripUptoCard

/-- THE SECOND FORM's CARD OF 'ambidexterlaw32.FramingResynchronization'. -/
def framingResynchronizationUptoCard : Claim7 := { stood := { row := framingResynchronizationUptoRow, standIns := [], harness := (true, "ca4dbb8c8eefa2c4fddf0fc8a0892f43bd1f77831ff2712f8e54d0944963bed3"), looks := false }, kinds := [], alts := [], laidByText := true, laidKinds := [.data, .pinned], laidTests := true, laidLooks := .later }
def FramingResynchronizationUptoCardSaid : Prop := Claim7.holds Tryd.pinned (.plain (OpenSpec.upto framingResynchronizationSpec)) framingResynchronizationUptoCard

/-- THE SECOND FORM's CARD OF 'ambidexterlaw32.FramingStreaming'. -/
def framingStreamingUptoCard : Claim7 := { stood := { row := framingStreamingUptoRow, standIns := [], harness := (true, "ca4dbb8c8eefa2c4fddf0fc8a0892f43bd1f77831ff2712f8e54d0944963bed3"), looks := false }, kinds := [], alts := [], laidByText := true, laidKinds := [.data, .pinned], laidTests := true, laidLooks := .later }
def FramingStreamingUptoCardSaid : Prop := Claim7.holds Tryd.pinned (.plain (OpenSpec.upto framingStreamingSpec)) framingStreamingUptoCard

/-- THE SECOND FORM's CARD OF 'ambidexterlaw32.FramingBurstError'. -/
def framingBurstErrorUptoCard : Claim7 := { stood := { row := framingBurstErrorUptoRow, standIns := [], harness := (true, "ca4dbb8c8eefa2c4fddf0fc8a0892f43bd1f77831ff2712f8e54d0944963bed3"), looks := false }, kinds := [], alts := [], laidByText := true, laidKinds := [.data, .pinned], laidTests := true, laidLooks := .later }
def FramingBurstErrorUptoCardSaid : Prop := Claim7.holds Tryd.pinned (.plain (OpenSpec.upto framingBurstErrorSpec)) framingBurstErrorUptoCard

/-- THE SECOND FORM's CARD OF 'ambidexterlaw32.FramingLengthError'. -/
def framingLengthErrorUptoCard : Claim7 := { stood := { row := framingLengthErrorUptoRow, standIns := [], harness := (true, "ca4dbb8c8eefa2c4fddf0fc8a0892f43bd1f77831ff2712f8e54d0944963bed3"), looks := false }, kinds := [], alts := [], laidByText := true, laidKinds := [.data, .pinned], laidTests := true, laidLooks := .later }
def FramingLengthErrorUptoCardSaid : Prop := Claim7.holds Tryd.pinned (.plain (OpenSpec.upto framingLengthErrorSpec)) framingLengthErrorUptoCard

/-- THE SECOND FORM's CARD OF 'ambidexterlaw32.FramingOnlyFrames'. -/
def framingOnlyFramesUptoCard : Claim7 := { stood := { row := framingOnlyFramesUptoRow, standIns := [], harness := (true, "ca4dbb8c8eefa2c4fddf0fc8a0892f43bd1f77831ff2712f8e54d0944963bed3"), looks := false }, kinds := [], alts := [], laidByText := true, laidKinds := [.data, .pinned], laidTests := true, laidLooks := .later }
def FramingOnlyFramesUptoCardSaid : Prop := Claim7.holds Tryd.pinned (.plain (OpenSpec.upto framingOnlyFramesSpec)) framingOnlyFramesUptoCard
end Rows
end Go.Proofs.YtigkjkmikicnnaaDoor
