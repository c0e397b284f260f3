/-
  DERIVED. GIVEN WITH THE SEED: THE CARDS: each row of YtbkpbcmjgbdbkaaDoorRows.lean that lists a variable, with what it lists TIED to the program's text (the seventh form; the later family's looks); each row that meets fmt, with fmt's text TOLD by the authors' own Lean function (tested against real Go, not proved from fmt's source: count such statements apart). THE CARD IS WHAT COUNTS. Prove the row's statement (the work); the ties are given (YtbkpbcmjgbdbkaaDoorTie.lean); close each card by the builder's one call (the guide's Derived/Test/ToyasCard.lean, 'card_holds'). Laid BY PROGRAM, IN A SANDBOX (cutbox-door.mjs). By AI agents, Wed Nov 11 2026. No macro, syntax, notation, axiom, sorry.
-/
import Derived.Test.YtbkpbcmjgbdbkaaDoorRows
import GoSem.ClaimSeven
namespace Go.Proofs.YtbkpbcmjgbdbkaaDoor
namespace Rows

/-- THE TIED CARD OF 'lychlaw11.AddrNames'. -/
def addrNamesCard : Claim7 := { stood := { row := addrNamesRow, standIns := [], harness := (true, "86701419ce4f76a1a3f2f17cf13c2260c331dbdca56c38eec33c70a3b3acbc60"), looks := false }, kinds := [], alts := [], laidByText := true, laidKinds := [.data, .data, .data, .data, .pinned], laidTests := true, laidLooks := .later }
def AddrNamesCardSaid : Prop := Claim7.holds Tryd.pinned (.plain (OpenSpec.ofChange addrNamesSpec)) addrNamesCard

/-- THE TIED CARD OF 'lychlaw11.AddrNums'. -/
def addrNumsCard : Claim7 := { stood := { row := addrNumsRow, standIns := [], harness := (true, "86701419ce4f76a1a3f2f17cf13c2260c331dbdca56c38eec33c70a3b3acbc60"), looks := false }, kinds := [], alts := [], laidByText := true, laidKinds := [.data, .data, .data, .data, .pinned], laidTests := true, laidLooks := .later }
def AddrNumsCardSaid : Prop := Claim7.holds Tryd.pinned (.plain (OpenSpec.ofChange addrNumsSpec)) addrNumsCard

/-- THE TIED CARD OF 'lychlaw11.AddrReads'. -/
def addrReadsCard : Claim7 := { stood := { row := addrReadsRow, standIns := [], harness := (true, "86701419ce4f76a1a3f2f17cf13c2260c331dbdca56c38eec33c70a3b3acbc60"), looks := false }, kinds := [], alts := [], laidByText := true, laidKinds := [.data, .data, .data, .data, .pinned], laidTests := true, laidLooks := .later }
def AddrReadsCardSaid : Prop := Claim7.holds Tryd.pinned (.plain (OpenSpec.ofChange addrReadsSpec)) addrReadsCard

/-- THE TIED CARD OF 'lychlaw11.AddrBack'. -/
def addrBackCard : Claim7 := { stood := { row := addrBackRow, standIns := [], harness := (true, "86701419ce4f76a1a3f2f17cf13c2260c331dbdca56c38eec33c70a3b3acbc60"), looks := false }, kinds := [], alts := [], laidByText := true, laidKinds := [.data, .data, .data, .data, .pinned], laidTests := true, laidLooks := .later }
def AddrBackCardSaid : Prop := Claim7.holds Tryd.pinned (.plain (OpenSpec.ofChange addrBackSpec)) addrBackCard

/-- THE TIED CARD OF 'lychlaw11.AddrOnce'. -/
def addrOnceCard : Claim7 := { stood := { row := addrOnceRow, standIns := [], harness := (true, "86701419ce4f76a1a3f2f17cf13c2260c331dbdca56c38eec33c70a3b3acbc60"), looks := false }, kinds := [], alts := [], laidByText := true, laidKinds := [.data, .data, .data, .data, .pinned], laidTests := true, laidLooks := .later }
def AddrOnceCardSaid : Prop := Claim7.holds Tryd.pinned (.plain (OpenSpec.ofChange addrOnceSpec)) addrOnceCard

/-- THE SECOND FORM's CARD OF 'lychlaw11.AddrNames'. -/
def addrNamesUptoCard : Claim7 := { stood := { row := addrNamesUptoRow, standIns := [], harness := (true, "86701419ce4f76a1a3f2f17cf13c2260c331dbdca56c38eec33c70a3b3acbc60"), looks := false }, kinds := [], alts := [], laidByText := true, laidKinds := [.data, .data, .data, .data, .pinned], laidTests := true, laidLooks := .later }
def AddrNamesUptoCardSaid : Prop := Claim7.holds Tryd.pinned (.plain (OpenSpec.upto addrNamesSpec)) addrNamesUptoCard

/-- THE SECOND FORM's CARD OF 'lychlaw11.AddrNums'. -/
def addrNumsUptoCard : Claim7 := { stood := { row := addrNumsUptoRow, standIns := [], harness := (true, "86701419ce4f76a1a3f2f17cf13c2260c331dbdca56c38eec33c70a3b3acbc60"), looks := false }, kinds := [], alts := [], laidByText := true, laidKinds := [.data, .data, .data, .data, .pinned], laidTests := true, laidLooks := .later }
def AddrNumsUptoCardSaid : Prop := Claim7.holds Tryd.pinned (.plain (OpenSpec.upto addrNumsSpec)) addrNumsUptoCard

/-- THE SECOND FORM's CARD OF 'lychlaw11.AddrReads'. -/
def addrReadsUptoCard : Claim7 := { stood := { row := addrReadsUptoRow, standIns := [], harness := (true, "86701419ce4f76a1a3f2f17cf13c2260c331dbdca56c38eec33c70a3b3acbc60"), looks := false }, kinds := [], alts := [], laidByText := true, laidKinds := [.data, .data, .data, .data, .pinned], laidTests := true, laidLooks := .later }
def AddrReadsUptoCardSaid : Prop := Claim7.holds Tryd.pinned (.plain (OpenSpec.upto addrReadsSpec)) addrReadsUptoCard

/-- THE SECOND FORM's CARD OF 'lychlaw11.AddrBack'. -/
def addrBackUptoCard : Claim7 := { stood := { row := addrBackUptoRow, standIns := [], harness := (true, "86701419ce4f76a1a3f2f17cf13c2260c331dbdca56c38eec33c70a3b3acbc60"), looks := false }, kinds := [], alts := [], laidByText := true, laidKinds := [.data, .data, .data, .data, .pinned], laidTests := true, laidLooks := .later }
def AddrBackUptoCardSaid : Prop := Claim7.holds Tryd.pinned (.plain (OpenSpec.upto addrBackSpec)) addrBackUptoCard

/-- THE SECOND FORM's CARD OF 'lychlaw11.AddrOnce'. -/
def addrOnceUptoCard : Claim7 := { stood := { row := addrOnceUptoRow, standIns := [], harness := (true, "86701419ce4f76a1a3f2f17cf13c2260c331dbdca56c38eec33c70a3b3acbc60"), looks := false }, kinds := [], alts := [], laidByText := true, laidKinds := [.data, .data, .data, .data, .pinned], laidTests := true, laidLooks := .later }
def AddrOnceUptoCardSaid : Prop := Claim7.holds Tryd.pinned (.plain (OpenSpec.upto addrOnceSpec)) addrOnceUptoCard
end Rows
end Go.Proofs.YtbkpbcmjgbdbkaaDoor
