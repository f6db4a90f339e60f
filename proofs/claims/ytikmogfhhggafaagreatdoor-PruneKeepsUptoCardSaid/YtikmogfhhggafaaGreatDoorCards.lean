/-
  DERIVED. GIVEN WITH THE SEED: THE CARDS: each row of YtikmogfhhggafaaGreatDoorRows.lean that lists a variable, with what it lists TIED to the program's text (the seventh form; the later family's looks); each row that meets fmt, with fmt's text TOLD by the authors' own Lean function (tested against real Go, not proved from fmt's source: count such statements apart). THE CARD IS WHAT COUNTS. Prove the row's statement (the work); the ties are given (YtikmogfhhggafaaGreatDoorTie.lean); close each card by the builder's one call (the guide's Derived/Test/ToyasCard.lean, 'card_holds'). Laid BY PROGRAM, IN A SANDBOX (cutbox-door.mjs). By AI agents, Wed Nov 11 2026. No macro, syntax, notation, axiom, sorry.
-/
import Derived.Test.YtikmogfhhggafaaGreatDoorRows
import GoSem.ClaimSeven
namespace Go.Proofs.YtikmogfhhggafaaGreatDoor
namespace Rows

/-- THE TIED CARD OF 'pithlaw36.SnapDiffs'. -/
def snapDiffsCard : Claim7 := { stood := { row := snapDiffsRow, standIns := [], harness := (true, "495ec6f9c69481de9eead86e398dd7264d368a76a1c11ac9f2604c34a632099a"), looks := true }, kinds := [], alts := [], laidByText := true, laidKinds := [.data, .data, .data], laidTests := true, laidLooks := .later }
def SnapDiffsCardSaid : Prop := Claim7.holds Tryz.pinned (.plain (OpenSpec.ofChange snapDiffsSpec)) snapDiffsCard

/-- THE TIED CARD OF 'pithlaw36.SnapNeeds'. -/
def snapNeedsCard : Claim7 := { stood := { row := snapNeedsRow, standIns := [], harness := (true, "495ec6f9c69481de9eead86e398dd7264d368a76a1c11ac9f2604c34a632099a"), looks := true }, kinds := [], alts := [], laidByText := true, laidKinds := [.data, .data, .data], laidTests := true, laidLooks := .later }
def SnapNeedsCardSaid : Prop := Claim7.holds Tryz.pinned (.plain (OpenSpec.ofChange snapNeedsSpec)) snapNeedsCard

/-- THE TIED CARD OF 'pithlaw36.SnapLists'. -/
def snapListsCard : Claim7 := { stood := { row := snapListsRow, standIns := [], harness := (true, "495ec6f9c69481de9eead86e398dd7264d368a76a1c11ac9f2604c34a632099a"), looks := true }, kinds := [], alts := [], laidByText := true, laidKinds := [.data, .data, .data], laidTests := true, laidLooks := .later }
def SnapListsCardSaid : Prop := Claim7.holds Tryz.pinned (.plain (OpenSpec.ofChange snapListsSpec)) snapListsCard

/-- THE TIED CARD OF 'pithlaw37.PruneKeeps'. -/
def pruneKeepsCard : Claim7 := { stood := { row := pruneKeepsRow, standIns := [], harness := (true, "495ec6f9c69481de9eead86e398dd7264d368a76a1c11ac9f2604c34a632099a"), looks := true }, kinds := [], alts := [], laidByText := true, laidKinds := [.data, .data, .data], laidTests := true, laidLooks := .later }
def PruneKeepsCardSaid : Prop := Claim7.holds Tryz.pinned (.plain (OpenSpec.ofChange pruneKeepsSpec)) pruneKeepsCard

/-- THE TIED CARD OF 'pithlaw37.PruneMends'. -/
def pruneMendsCard : Claim7 := { stood := { row := pruneMendsRow, standIns := [], harness := (true, "495ec6f9c69481de9eead86e398dd7264d368a76a1c11ac9f2604c34a632099a"), looks := true }, kinds := [], alts := [], laidByText := true, laidKinds := [.data, .data, .data], laidTests := true, laidLooks := .later }
def PruneMendsCardSaid : Prop := Claim7.holds Tryz.pinned (.plain (OpenSpec.ofChange pruneMendsSpec)) pruneMendsCard

/-- THE SECOND FORM's CARD OF 'pithlaw36.SnapDiffs'. -/
def snapDiffsUptoCard : Claim7 := { stood := { row := snapDiffsUptoRow, standIns := [], harness := (true, "495ec6f9c69481de9eead86e398dd7264d368a76a1c11ac9f2604c34a632099a"), looks := true }, kinds := [], alts := [], laidByText := true, laidKinds := [.data, .data, .data], laidTests := true, laidLooks := .later }
def SnapDiffsUptoCardSaid : Prop := Claim7.holds Tryz.pinned (.plain (OpenSpec.upto snapDiffsSpec)) snapDiffsUptoCard

/-- THE SECOND FORM's CARD OF 'pithlaw36.SnapNeeds'. -/
def snapNeedsUptoCard : Claim7 := { stood := { row := snapNeedsUptoRow, standIns := [], harness := (true, "495ec6f9c69481de9eead86e398dd7264d368a76a1c11ac9f2604c34a632099a"), looks := true }, kinds := [], alts := [], laidByText := true, laidKinds := [.data, .data, .data], laidTests := true, laidLooks := .later }
def SnapNeedsUptoCardSaid : Prop := Claim7.holds Tryz.pinned (.plain (OpenSpec.upto snapNeedsSpec)) snapNeedsUptoCard

/-- THE SECOND FORM's CARD OF 'pithlaw36.SnapLists'. -/
def snapListsUptoCard : Claim7 := { stood := { row := snapListsUptoRow, standIns := [], harness := (true, "495ec6f9c69481de9eead86e398dd7264d368a76a1c11ac9f2604c34a632099a"), looks := true }, kinds := [], alts := [], laidByText := true, laidKinds := [.data, .data, .data], laidTests := true, laidLooks := .later }
def SnapListsUptoCardSaid : Prop := Claim7.holds Tryz.pinned (.plain (OpenSpec.upto snapListsSpec)) snapListsUptoCard

/-- THE SECOND FORM's CARD OF 'pithlaw37.PruneKeeps'. -/
def pruneKeepsUptoCard : Claim7 := { stood := { row := pruneKeepsUptoRow, standIns := [], harness := (true, "495ec6f9c69481de9eead86e398dd7264d368a76a1c11ac9f2604c34a632099a"), looks := true }, kinds := [], alts := [], laidByText := true, laidKinds := [.data, .data, .data], laidTests := true, laidLooks := .later }
def PruneKeepsUptoCardSaid : Prop := Claim7.holds Tryz.pinned (.plain (OpenSpec.upto pruneKeepsSpec)) pruneKeepsUptoCard

/-- THE SECOND FORM's CARD OF 'pithlaw37.PruneMends'. -/
def pruneMendsUptoCard : Claim7 := { stood := { row := pruneMendsUptoRow, standIns := [], harness := (true, "495ec6f9c69481de9eead86e398dd7264d368a76a1c11ac9f2604c34a632099a"), looks := true }, kinds := [], alts := [], laidByText := true, laidKinds := [.data, .data, .data], laidTests := true, laidLooks := .later }
def PruneMendsUptoCardSaid : Prop := Claim7.holds Tryz.pinned (.plain (OpenSpec.upto pruneMendsSpec)) pruneMendsUptoCard
end Rows
end Go.Proofs.YtikmogfhhggafaaGreatDoor
