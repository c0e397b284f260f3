/-
  DERIVED. GIVEN WITH THE SEED: THE CARDS: each row of YtbkpbcmjgbdbkaaGreatDoorRows.lean that lists a variable, with what it lists TIED to the program's text (the seventh form; the later family's looks); each row that meets fmt, with fmt's text TOLD by the authors' own Lean function (tested against real Go, not proved from fmt's source: count such statements apart). THE CARD IS WHAT COUNTS. Prove the row's statement (the work); the ties are given (YtbkpbcmjgbdbkaaGreatDoorTie.lean); close each card by the builder's one call (the guide's Derived/Test/ToyasCard.lean, 'card_holds'). Laid BY PROGRAM, IN A SANDBOX (cutbox-door.mjs). By AI agents, Wed Nov 11 2026. No macro, syntax, notation, axiom, sorry.
-/
import Derived.Test.YtbkpbcmjgbdbkaaGreatDoorRows
import GoSem.ClaimSeven
namespace Go.Proofs.YtbkpbcmjgbdbkaaGreatDoor
namespace Rows

/-- THE TIED CARD OF 'lychlaw13.LangReads'. -/
def langReadsCard : Claim7 := { stood := { row := langReadsRow, standIns := [], harness := (true, "ed0e9dbe4168c1b895e9ab901eb6d8711153df9eb97881f62854f093ff6229dd"), looks := true }, kinds := [], alts := [], laidByText := true, laidKinds := [.data, .data, .data, .data, .handle, .pinned], laidTests := true, laidLooks := .later }
def LangReadsCardSaid : Prop := Claim7.holds Tryz.pinned (.plain (OpenSpec.ofChange langReadsSpec)) langReadsCard

/-- THE TIED CARD OF 'lychlaw13.LangWrites'. -/
def langWritesCard : Claim7 := { stood := { row := langWritesRow, standIns := [], harness := (true, "ed0e9dbe4168c1b895e9ab901eb6d8711153df9eb97881f62854f093ff6229dd"), looks := true }, kinds := [], alts := [], laidByText := true, laidKinds := [.data, .data, .data, .data, .handle, .pinned], laidTests := true, laidLooks := .later }
def LangWritesCardSaid : Prop := Claim7.holds Tryz.pinned (.plain (OpenSpec.ofChange langWritesSpec)) langWritesCard

/-- THE TIED CARD OF 'lychlaw13.LangBack'. -/
def langBackCard : Claim7 := { stood := { row := langBackRow, standIns := [], harness := (true, "ed0e9dbe4168c1b895e9ab901eb6d8711153df9eb97881f62854f093ff6229dd"), looks := true }, kinds := [], alts := [], laidByText := true, laidKinds := [.data, .data, .data, .data, .handle, .pinned], laidTests := true, laidLooks := .later }
def LangBackCardSaid : Prop := Claim7.holds Tryz.pinned (.plain (OpenSpec.ofChange langBackSpec)) langBackCard

/-- THE TIED CARD OF 'lychlaw13.LangLong'. -/
def langLongCard : Claim7 := { stood := { row := langLongRow, standIns := [], harness := (true, "ed0e9dbe4168c1b895e9ab901eb6d8711153df9eb97881f62854f093ff6229dd"), looks := true }, kinds := [], alts := [], laidByText := true, laidKinds := [.data, .data, .data, .data, .handle, .pinned], laidTests := true, laidLooks := .later }
def LangLongCardSaid : Prop := Claim7.holds Tryz.pinned (.plain (OpenSpec.ofChange langLongSpec)) langLongCard

/-- THE TIED CARD OF 'lychlaw13.LangOrder'. -/
def langOrderCard : Claim7 := { stood := { row := langOrderRow, standIns := [], harness := (true, "ed0e9dbe4168c1b895e9ab901eb6d8711153df9eb97881f62854f093ff6229dd"), looks := true }, kinds := [], alts := [], laidByText := true, laidKinds := [.data, .data, .data, .data, .handle, .pinned], laidTests := true, laidLooks := .later }
def LangOrderCardSaid : Prop := Claim7.holds Tryz.pinned (.plain (OpenSpec.ofChange langOrderSpec)) langOrderCard

/-- THE TIED CARD OF 'lychlaw13.LangWords'. -/
def langWordsCard : Claim7 := { stood := { row := langWordsRow, standIns := [], harness := (true, "ed0e9dbe4168c1b895e9ab901eb6d8711153df9eb97881f62854f093ff6229dd"), looks := true }, kinds := [], alts := [], laidByText := true, laidKinds := [.data, .data, .data, .data, .handle, .pinned], laidTests := true, laidLooks := .later }
def LangWordsCardSaid : Prop := Claim7.holds Tryz.pinned (.plain (OpenSpec.ofChange langWordsSpec)) langWordsCard

/-- THE SECOND FORM's CARD OF 'lychlaw13.LangReads'. -/
def langReadsUptoCard : Claim7 := { stood := { row := langReadsUptoRow, standIns := [], harness := (true, "ed0e9dbe4168c1b895e9ab901eb6d8711153df9eb97881f62854f093ff6229dd"), looks := true }, kinds := [], alts := [], laidByText := true, laidKinds := [.data, .data, .data, .data, .handle, .pinned], laidTests := true, laidLooks := .later }
def LangReadsUptoCardSaid : Prop := Claim7.holds Tryz.pinned (.plain (OpenSpec.upto langReadsSpec)) langReadsUptoCard

/-- THE SECOND FORM's CARD OF 'lychlaw13.LangWrites'. -/
def langWritesUptoCard : Claim7 := { stood := { row := langWritesUptoRow, standIns := [], harness := (true, "ed0e9dbe4168c1b895e9ab901eb6d8711153df9eb97881f62854f093ff6229dd"), looks := true }, kinds := [], alts := [], laidByText := true, laidKinds := [.data, .data, .data, .data, .handle, .pinned], laidTests := true, laidLooks := .later }
def LangWritesUptoCardSaid : Prop := Claim7.holds Tryz.pinned (.plain (OpenSpec.upto langWritesSpec)) langWritesUptoCard

/-- THE SECOND FORM's CARD OF 'lychlaw13.LangBack'. -/
def langBackUptoCard : Claim7 := { stood := { row := langBackUptoRow, standIns := [], harness := (true, "ed0e9dbe4168c1b895e9ab901eb6d8711153df9eb97881f62854f093ff6229dd"), looks := true }, kinds := [], alts := [], laidByText := true, laidKinds := [.data, .data, .data, .data, .handle, .pinned], laidTests := true, laidLooks := .later }
def LangBackUptoCardSaid : Prop := Claim7.holds Tryz.pinned (.plain (OpenSpec.upto langBackSpec)) langBackUptoCard

/-- THE SECOND FORM's CARD OF 'lychlaw13.LangLong'. -/
def langLongUptoCard : Claim7 := { stood := { row := langLongUptoRow, standIns := [], harness := (true, "ed0e9dbe4168c1b895e9ab901eb6d8711153df9eb97881f62854f093ff6229dd"), looks := true }, kinds := [], alts := [], laidByText := true, laidKinds := [.data, .data, .data, .data, .handle, .pinned], laidTests := true, laidLooks := .later }
def LangLongUptoCardSaid : Prop := Claim7.holds Tryz.pinned (.plain (OpenSpec.upto langLongSpec)) langLongUptoCard

/-- THE SECOND FORM's CARD OF 'lychlaw13.LangOrder'. -/
def langOrderUptoCard : Claim7 := { stood := { row := langOrderUptoRow, standIns := [], harness := (true, "ed0e9dbe4168c1b895e9ab901eb6d8711153df9eb97881f62854f093ff6229dd"), looks := true }, kinds := [], alts := [], laidByText := true, laidKinds := [.data, .data, .data, .data, .handle, .pinned], laidTests := true, laidLooks := .later }
def LangOrderUptoCardSaid : Prop := Claim7.holds Tryz.pinned (.plain (OpenSpec.upto langOrderSpec)) langOrderUptoCard

/-- THE SECOND FORM's CARD OF 'lychlaw13.LangWords'. -/
def langWordsUptoCard : Claim7 := { stood := { row := langWordsUptoRow, standIns := [], harness := (true, "ed0e9dbe4168c1b895e9ab901eb6d8711153df9eb97881f62854f093ff6229dd"), looks := true }, kinds := [], alts := [], laidByText := true, laidKinds := [.data, .data, .data, .data, .handle, .pinned], laidTests := true, laidLooks := .later }
def LangWordsUptoCardSaid : Prop := Claim7.holds Tryz.pinned (.plain (OpenSpec.upto langWordsSpec)) langWordsUptoCard
end Rows
end Go.Proofs.YtbkpbcmjgbdbkaaGreatDoor
