/-
  DERIVED. GIVEN WITH THE SEED: THE CARDS: each row of YteeepkimnpabiaaDoorRows.lean that lists a variable, with what it lists TIED to the program's text (the seventh form; the later family's looks); each row that meets fmt, with fmt's text TOLD by the authors' own Lean function (tested against real Go, not proved from fmt's source: count such statements apart). THE CARD IS WHAT COUNTS. Prove the row's statement (the work); the ties are given (YteeepkimnpabiaaDoorTie.lean); close each card by the builder's one call (the guide's Derived/Test/ToyasCard.lean, 'card_holds'). Laid BY PROGRAM, IN A SANDBOX (cutbox-door.mjs). By AI agents, Wed Nov 11 2026. No macro, syntax, notation, axiom, sorry.
-/
import Derived.Test.YteeepkimnpabiaaDoorRows
import GoSem.ClaimSeven
namespace Go.Proofs.YteeepkimnpabiaaDoor
namespace Rows

/-- THE TIED CARD OF 'pithlaw33.TarTold'. -/
def tarToldCard : Claim7 := { stood := { row := tarToldRow, standIns := [], harness := (true, "3048ac235cf71099c956f4771f40ab937f1bb25b550500c66f3a9f58b68b095a"), looks := false }, kinds := [], alts := [], laidByText := true, laidKinds := [.data, .pinned], laidTests := true, laidLooks := .later }
def TarToldCardSaid : Prop := Claim7.holds Tryd.pinned (.plain (OpenSpec.ofChange tarToldSpec)) tarToldCard

/-- THE TIED CARD OF 'pithlaw33.TarExact'. -/
def tarExactCard : Claim7 := { stood := { row := tarExactRow, standIns := [], harness := (true, "3048ac235cf71099c956f4771f40ab937f1bb25b550500c66f3a9f58b68b095a"), looks := false }, kinds := [], alts := [], laidByText := true, laidKinds := [.data, .pinned], laidTests := true, laidLooks := .later }
def TarExactCardSaid : Prop := Claim7.holds Tryd.pinned (.plain (OpenSpec.ofChange tarExactSpec)) tarExactCard

/-- THE TIED CARD OF 'pithlaw33.TarBack'. -/
def tarBackCard : Claim7 := { stood := { row := tarBackRow, standIns := [], harness := (true, "3048ac235cf71099c956f4771f40ab937f1bb25b550500c66f3a9f58b68b095a"), looks := false }, kinds := [], alts := [], laidByText := true, laidKinds := [.data, .pinned], laidTests := true, laidLooks := .later }
def TarBackCardSaid : Prop := Claim7.holds Tryd.pinned (.plain (OpenSpec.ofChange tarBackSpec)) tarBackCard

/-- THE TIED CARD OF 'pithlaw33.TarSole'. -/
def tarSoleCard : Claim7 := { stood := { row := tarSoleRow, standIns := [], harness := (true, "3048ac235cf71099c956f4771f40ab937f1bb25b550500c66f3a9f58b68b095a"), looks := false }, kinds := [], alts := [], laidByText := true, laidKinds := [.data, .pinned], laidTests := true, laidLooks := .later }
def TarSoleCardSaid : Prop := Claim7.holds Tryd.pinned (.plain (OpenSpec.ofChange tarSoleSpec)) tarSoleCard

/-- THE TIED CARD OF 'pithlaw33.TarLists'. -/
def tarListsCard : Claim7 := { stood := { row := tarListsRow, standIns := [], harness := (true, "3048ac235cf71099c956f4771f40ab937f1bb25b550500c66f3a9f58b68b095a"), looks := false }, kinds := [], alts := [], laidByText := true, laidKinds := [.data, .pinned], laidTests := true, laidLooks := .later }
def TarListsCardSaid : Prop := Claim7.holds Tryd.pinned (.plain (OpenSpec.ofChange tarListsSpec)) tarListsCard

/-- THE SECOND FORM's CARD OF 'pithlaw33.TarTold'. -/
def tarToldUptoCard : Claim7 := { stood := { row := tarToldUptoRow, standIns := [], harness := (true, "3048ac235cf71099c956f4771f40ab937f1bb25b550500c66f3a9f58b68b095a"), looks := false }, kinds := [], alts := [], laidByText := true, laidKinds := [.data, .pinned], laidTests := true, laidLooks := .later }
def TarToldUptoCardSaid : Prop := Claim7.holds Tryd.pinned (.plain (OpenSpec.upto tarToldSpec)) tarToldUptoCard

/-- THE SECOND FORM's CARD OF 'pithlaw33.TarExact'. -/
def tarExactUptoCard : Claim7 := { stood := { row := tarExactUptoRow, standIns := [], harness := (true, "3048ac235cf71099c956f4771f40ab937f1bb25b550500c66f3a9f58b68b095a"), looks := false }, kinds := [], alts := [], laidByText := true, laidKinds := [.data, .pinned], laidTests := true, laidLooks := .later }
def TarExactUptoCardSaid : Prop := Claim7.holds Tryd.pinned (.plain (OpenSpec.upto tarExactSpec)) tarExactUptoCard

/-- THE SECOND FORM's CARD OF 'pithlaw33.TarBack'. -/
def tarBackUptoCard : Claim7 := { stood := { row := tarBackUptoRow, standIns := [], harness := (true, "3048ac235cf71099c956f4771f40ab937f1bb25b550500c66f3a9f58b68b095a"), looks := false }, kinds := [], alts := [], laidByText := true, laidKinds := [.data, .pinned], laidTests := true, laidLooks := .later }
def TarBackUptoCardSaid : Prop := Claim7.holds Tryd.pinned (.plain (OpenSpec.upto tarBackSpec)) tarBackUptoCard

/-- THE SECOND FORM's CARD OF 'pithlaw33.TarSole'. -/
def tarSoleUptoCard : Claim7 := { stood := { row := tarSoleUptoRow, standIns := [], harness := (true, "3048ac235cf71099c956f4771f40ab937f1bb25b550500c66f3a9f58b68b095a"), looks := false }, kinds := [], alts := [], laidByText := true, laidKinds := [.data, .pinned], laidTests := true, laidLooks := .later }
def TarSoleUptoCardSaid : Prop := Claim7.holds Tryd.pinned (.plain (OpenSpec.upto tarSoleSpec)) tarSoleUptoCard

/-- THE SECOND FORM's CARD OF 'pithlaw33.TarLists'. -/
def tarListsUptoCard : Claim7 := { stood := { row := tarListsUptoRow, standIns := [], harness := (true, "3048ac235cf71099c956f4771f40ab937f1bb25b550500c66f3a9f58b68b095a"), looks := false }, kinds := [], alts := [], laidByText := true, laidKinds := [.data, .pinned], laidTests := true, laidLooks := .later }
def TarListsUptoCardSaid : Prop := Claim7.holds Tryd.pinned (.plain (OpenSpec.upto tarListsSpec)) tarListsUptoCard
end Rows
end Go.Proofs.YteeepkimnpabiaaDoor
