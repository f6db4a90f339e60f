/-
  DERIVED. GIVEN WITH THE SEED: THE CARDS: each row of YtbgnnjfpiblkmaaGreatDoorRows.lean that lists a variable, with what it lists TIED to the program's text (the seventh form; the later family's looks); each row that meets fmt, with fmt's text TOLD by the authors' own Lean function (tested against real Go, not proved from fmt's source: count such statements apart). THE CARD IS WHAT COUNTS. Prove the row's statement (the work); the ties are given (YtbgnnjfpiblkmaaGreatDoorTie.lean); close each card by the builder's one call (the guide's Derived/Test/ToyasCard.lean, 'card_holds'). Laid BY PROGRAM, IN A SANDBOX (cutbox-door.mjs). By AI agents, Wed Nov 11 2026. No macro, syntax, notation, axiom, sorry.
-/
import Derived.Test.YtbgnnjfpiblkmaaGreatDoorRows
import GoSem.ClaimSeven
namespace Go.Proofs.YtbgnnjfpiblkmaaGreatDoor
namespace Rows

/-- THE TIED CARD OF 'pithlaw15.DecPlays'. -/
def decPlaysCard : Claim7 := { stood := { row := decPlaysRow, standIns := [], harness := (true, "79c1a805bbf1716521075fd8c11445f1e048f32004e9ccbeb4ba97b4bb22ee58"), looks := true }, kinds := [], alts := [], laidByText := true, laidKinds := [.data, .data, .data, .data, .data, .data, .data], laidTests := true, laidLooks := .later }
def DecPlaysCardSaid : Prop := Claim7.holds Tryz.pinned (.plain (OpenSpec.ofChange decPlaysSpec)) decPlaysCard

/-- THE TIED CARD OF 'pithlaw14.LzencExact'. -/
def lzencExactCard : Claim7 := { stood := { row := lzencExactRow, standIns := [], harness := (true, "79c1a805bbf1716521075fd8c11445f1e048f32004e9ccbeb4ba97b4bb22ee58"), looks := true }, kinds := [], alts := [], laidByText := true, laidKinds := [.data, .data, .data, .data, .data, .data, .data], laidTests := true, laidLooks := .later }
def LzencExactCardSaid : Prop := Claim7.holds Tryz.pinned (.plain (OpenSpec.ofChange lzencExactSpec)) lzencExactCard

/-- THE TIED CARD OF 'pithlaw14.LzencBack'. -/
def lzencBackCard : Claim7 := { stood := { row := lzencBackRow, standIns := [], harness := (true, "79c1a805bbf1716521075fd8c11445f1e048f32004e9ccbeb4ba97b4bb22ee58"), looks := true }, kinds := [], alts := [], laidByText := true, laidKinds := [.data, .data, .data, .data, .data, .data, .data], laidTests := true, laidLooks := .later }
def LzencBackCardSaid : Prop := Claim7.holds Tryz.pinned (.plain (OpenSpec.ofChange lzencBackSpec)) lzencBackCard

/-- THE TIED CARD OF 'pithlaw15.DecOne'. -/
def decOneCard : Claim7 := { stood := { row := decOneRow, standIns := [], harness := (true, "79c1a805bbf1716521075fd8c11445f1e048f32004e9ccbeb4ba97b4bb22ee58"), looks := true }, kinds := [], alts := [], laidByText := true, laidKinds := [.data, .data, .data, .data], laidTests := true, laidLooks := .later }
def DecOneCardSaid : Prop := Claim7.holds Tryz.pinned (.plain (OpenSpec.ofChange decOneSpec)) decOneCard

/-- THE TIED CARD OF 'pithlaw15.DecBack'. -/
def decBackCard : Claim7 := { stood := { row := decBackRow, standIns := [], harness := (true, "79c1a805bbf1716521075fd8c11445f1e048f32004e9ccbeb4ba97b4bb22ee58"), looks := true }, kinds := [], alts := [], laidByText := true, laidKinds := [.data, .data, .data, .data], laidTests := true, laidLooks := .later }
def DecBackCardSaid : Prop := Claim7.holds Tryz.pinned (.plain (OpenSpec.ofChange decBackSpec)) decBackCard

/-- THE TIED CARD OF 'pithlaw15.DecSpent'. -/
def decSpentCard : Claim7 := { stood := { row := decSpentRow, standIns := [], harness := (true, "79c1a805bbf1716521075fd8c11445f1e048f32004e9ccbeb4ba97b4bb22ee58"), looks := true }, kinds := [], alts := [], laidByText := true, laidKinds := [.data, .data, .data, .data], laidTests := true, laidLooks := .later }
def DecSpentCardSaid : Prop := Claim7.holds Tryz.pinned (.plain (OpenSpec.ofChange decSpentSpec)) decSpentCard

/-- THE SECOND FORM's CARD OF 'pithlaw15.DecPlays'. -/
def decPlaysUptoCard : Claim7 := { stood := { row := decPlaysUptoRow, standIns := [], harness := (true, "79c1a805bbf1716521075fd8c11445f1e048f32004e9ccbeb4ba97b4bb22ee58"), looks := true }, kinds := [], alts := [], laidByText := true, laidKinds := [.data, .data, .data, .data, .data, .data, .data], laidTests := true, laidLooks := .later }
def DecPlaysUptoCardSaid : Prop := Claim7.holds Tryz.pinned (.plain (OpenSpec.upto decPlaysSpec)) decPlaysUptoCard

/-- THE SECOND FORM's CARD OF 'pithlaw14.LzencExact'. -/
def lzencExactUptoCard : Claim7 := { stood := { row := lzencExactUptoRow, standIns := [], harness := (true, "79c1a805bbf1716521075fd8c11445f1e048f32004e9ccbeb4ba97b4bb22ee58"), looks := true }, kinds := [], alts := [], laidByText := true, laidKinds := [.data, .data, .data, .data, .data, .data, .data], laidTests := true, laidLooks := .later }
def LzencExactUptoCardSaid : Prop := Claim7.holds Tryz.pinned (.plain (OpenSpec.upto lzencExactSpec)) lzencExactUptoCard

/-- THE SECOND FORM's CARD OF 'pithlaw14.LzencBack'. -/
def lzencBackUptoCard : Claim7 := { stood := { row := lzencBackUptoRow, standIns := [], harness := (true, "79c1a805bbf1716521075fd8c11445f1e048f32004e9ccbeb4ba97b4bb22ee58"), looks := true }, kinds := [], alts := [], laidByText := true, laidKinds := [.data, .data, .data, .data, .data, .data, .data], laidTests := true, laidLooks := .later }
def LzencBackUptoCardSaid : Prop := Claim7.holds Tryz.pinned (.plain (OpenSpec.upto lzencBackSpec)) lzencBackUptoCard

/-- THE SECOND FORM's CARD OF 'pithlaw15.DecOne'. -/
def decOneUptoCard : Claim7 := { stood := { row := decOneUptoRow, standIns := [], harness := (true, "79c1a805bbf1716521075fd8c11445f1e048f32004e9ccbeb4ba97b4bb22ee58"), looks := true }, kinds := [], alts := [], laidByText := true, laidKinds := [.data, .data, .data, .data], laidTests := true, laidLooks := .later }
def DecOneUptoCardSaid : Prop := Claim7.holds Tryz.pinned (.plain (OpenSpec.upto decOneSpec)) decOneUptoCard

/-- THE SECOND FORM's CARD OF 'pithlaw15.DecBack'. -/
def decBackUptoCard : Claim7 := { stood := { row := decBackUptoRow, standIns := [], harness := (true, "79c1a805bbf1716521075fd8c11445f1e048f32004e9ccbeb4ba97b4bb22ee58"), looks := true }, kinds := [], alts := [], laidByText := true, laidKinds := [.data, .data, .data, .data], laidTests := true, laidLooks := .later }
def DecBackUptoCardSaid : Prop := Claim7.holds Tryz.pinned (.plain (OpenSpec.upto decBackSpec)) decBackUptoCard

/-- THE SECOND FORM's CARD OF 'pithlaw15.DecSpent'. -/
def decSpentUptoCard : Claim7 := { stood := { row := decSpentUptoRow, standIns := [], harness := (true, "79c1a805bbf1716521075fd8c11445f1e048f32004e9ccbeb4ba97b4bb22ee58"), looks := true }, kinds := [], alts := [], laidByText := true, laidKinds := [.data, .data, .data, .data], laidTests := true, laidLooks := .later }
def DecSpentUptoCardSaid : Prop := Claim7.holds Tryz.pinned (.plain (OpenSpec.upto decSpentSpec)) decSpentUptoCard
end Rows
end Go.Proofs.YtbgnnjfpiblkmaaGreatDoor
