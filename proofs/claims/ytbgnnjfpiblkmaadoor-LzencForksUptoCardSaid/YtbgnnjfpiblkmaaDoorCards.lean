/-
  DERIVED. GIVEN WITH THE SEED: THE CARDS: each row of YtbgnnjfpiblkmaaDoorRows.lean that lists a variable, with what it lists TIED to the program's text (the seventh form; the later family's looks); each row that meets fmt, with fmt's text TOLD by the authors' own Lean function (tested against real Go, not proved from fmt's source: count such statements apart). THE CARD IS WHAT COUNTS. Prove the row's statement (the work); the ties are given (YtbgnnjfpiblkmaaDoorTie.lean); close each card by the builder's one call (the guide's Derived/Test/ToyasCard.lean, 'card_holds'). Laid BY PROGRAM, IN A SANDBOX (cutbox-door.mjs). By AI agents, Wed Nov 11 2026. No macro, syntax, notation, axiom, sorry.
-/
import Derived.Test.YtbgnnjfpiblkmaaDoorRows
import GoSem.ClaimSeven
namespace Go.Proofs.YtbgnnjfpiblkmaaDoor
namespace Rows

/-- THE TIED CARD OF 'pithlaw14.LzencRefused'. -/
def lzencRefusedCard : Claim7 := { stood := { row := lzencRefusedRow, standIns := [], harness := (true, "f9bfe908022c786f002d93bdcaf0284b4d1908f2bc58f569c667ffb8b2368ed5"), looks := false }, kinds := [], alts := [], laidByText := true, laidKinds := [.data, .data, .data, .data], laidTests := true, laidLooks := .later }
def LzencRefusedCardSaid : Prop := Claim7.holds Tryd.pinned (.plain (OpenSpec.ofChange lzencRefusedSpec)) lzencRefusedCard

/-- THE TIED CARD OF 'pithlaw14.LzencForks'. -/
def lzencForksCard : Claim7 := { stood := { row := lzencForksRow, standIns := [], harness := (true, "f9bfe908022c786f002d93bdcaf0284b4d1908f2bc58f569c667ffb8b2368ed5"), looks := false }, kinds := [], alts := [], laidByText := true, laidKinds := [.data, .data, .data, .data], laidTests := true, laidLooks := .later }
def LzencForksCardSaid : Prop := Claim7.holds Tryd.pinned (.plain (OpenSpec.ofChange lzencForksSpec)) lzencForksCard

/-- THE SECOND FORM's CARD OF 'pithlaw14.LzencRefused'. -/
def lzencRefusedUptoCard : Claim7 := { stood := { row := lzencRefusedUptoRow, standIns := [], harness := (true, "f9bfe908022c786f002d93bdcaf0284b4d1908f2bc58f569c667ffb8b2368ed5"), looks := false }, kinds := [], alts := [], laidByText := true, laidKinds := [.data, .data, .data, .data], laidTests := true, laidLooks := .later }
def LzencRefusedUptoCardSaid : Prop := Claim7.holds Tryd.pinned (.plain (OpenSpec.upto lzencRefusedSpec)) lzencRefusedUptoCard

/-- THE SECOND FORM's CARD OF 'pithlaw14.LzencForks'. -/
def lzencForksUptoCard : Claim7 := { stood := { row := lzencForksUptoRow, standIns := [], harness := (true, "f9bfe908022c786f002d93bdcaf0284b4d1908f2bc58f569c667ffb8b2368ed5"), looks := false }, kinds := [], alts := [], laidByText := true, laidKinds := [.data, .data, .data, .data], laidTests := true, laidLooks := .later }
def LzencForksUptoCardSaid : Prop := Claim7.holds Tryd.pinned (.plain (OpenSpec.upto lzencForksSpec)) lzencForksUptoCard
end Rows
end Go.Proofs.YtbgnnjfpiblkmaaDoor
