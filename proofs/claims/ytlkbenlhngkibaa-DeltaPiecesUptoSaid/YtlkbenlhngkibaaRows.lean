/-
  No cell of these rows narrows 'for every input' (looked for: loops, veiled, ifaces, maps, wideKeys, modest, calm, conditions, laid).
  DERIVED. THE GIVEN ROWS OF THIS SEAT. 6 by the template 'for every input the law returns true; each argument reads behind the call as it read before'; 0 by the template 'total and deterministic' (their statements: YtlkbenlhngkibaaTotals.lean).
  GIVEN WITH THE SEED: the statements are not yours to turn. If you find one false, say at which input.
  Laid BY PROGRAM, IN A SANDBOX (cutbox-rows.mjs): the forced cells as the released guide's own fill.sh prints them over the translation b72b1658b3f70e9f… (all of the seat's roots in one cut). By AI agents, Wed Nov 11 2026. No macro, syntax, notation, axiom, sorry.
-/
import Derived.Test.YtlkbenlhngkibaaChecked
import GoSem.Claim
import GoSem.ClaimJoined
import GoSem.ClaimMapViews
import Derived.JoinedTies
import Derived.KernelRfl
namespace Go.Proofs.Ytlkbenlhngkibaa
/- THE CELL 'sum', in the pinned program and in every row, IS THE sha256 OF THE DUMP (.gsa) THAT YtlkbenlhngkibaaProg.lean LOADS. Nothing in Lean hashes anything: it is a label: what it is worth is what the hold of that sum in a sandbox is worth. -/
noncomputable def Try.pinned : Pinned := { name := "ytlkbenlhngkibaa", sum := "b72b1658b3f70e9f4d28ec73d5354dd2d5b0528107ed658dbfa0afbae189a9cd", checked := Try.checked }
namespace Rows
def none {H : Type} : Left H := { results := [], args := [] }

/-- 'pithlaw19.DeltaPieces': WHATEVER THE INPUT: true; the input reads as it did. -/
def deltaPiecesSpec : ChangeSpec := { name := "deltaPieces", fn := fun _ => fun
  | [d1, d2, d3, d4, d5] => { results := [.lit (.bool true)], args := [d1, d2, d3, d4, d5] }
  | _ => none }
def deltaPiecesRow : OpenClaim := { program := "ytlkbenlhngkibaa", sum := "b72b1658b3f70e9f4d28ec73d5354dd2d5b0528107ed658dbfa0afbae189a9cd", func := "pith/pithlaw19.DeltaPieces", spec := "deltaPieces", apart := false }
def DeltaPiecesSaid : Prop := deltaPiecesRow.holds Try.pinned (OpenSpec.ofChange deltaPiecesSpec)

/-- ITS FALSE NEIGHBOUR: 'it returns false'. Refute it at one input. -/
def deltaPiecesWrong : ChangeSpec := { name := "deltaPieces", fn := fun _ => fun
  | [d1, d2, d3, d4, d5] => { results := [.lit (.bool false)], args := [d1, d2, d3, d4, d5] }
  | _ => none }
def DeltaPiecesWrongFalsely : Prop := deltaPiecesRow.holds Try.pinned (OpenSpec.ofChange deltaPiecesWrong)

/-- 'pithlaw19.DeltaWhole': WHATEVER THE INPUT: true; the input reads as it did. -/
def deltaWholeSpec : ChangeSpec := { name := "deltaWhole", fn := fun _ => fun
  | [d1, d2] => { results := [.lit (.bool true)], args := [d1, d2] }
  | _ => none }
def deltaWholeRow : OpenClaim := { program := "ytlkbenlhngkibaa", sum := "b72b1658b3f70e9f4d28ec73d5354dd2d5b0528107ed658dbfa0afbae189a9cd", func := "pith/pithlaw19.DeltaWhole", spec := "deltaWhole", apart := false }
def DeltaWholeSaid : Prop := deltaWholeRow.holds Try.pinned (OpenSpec.ofChange deltaWholeSpec)

/-- ITS FALSE NEIGHBOUR: 'it returns false'. Refute it at one input. -/
def deltaWholeWrong : ChangeSpec := { name := "deltaWhole", fn := fun _ => fun
  | [d1, d2] => { results := [.lit (.bool false)], args := [d1, d2] }
  | _ => none }
def DeltaWholeWrongFalsely : Prop := deltaWholeRow.holds Try.pinned (OpenSpec.ofChange deltaWholeWrong)

/-- 'pithlaw19.DeltaBack': WHATEVER THE INPUT: true; the input reads as it did. -/
def deltaBackSpec : ChangeSpec := { name := "deltaBack", fn := fun _ => fun
  | [d1, d2] => { results := [.lit (.bool true)], args := [d1, d2] }
  | _ => none }
def deltaBackRow : OpenClaim := { program := "ytlkbenlhngkibaa", sum := "b72b1658b3f70e9f4d28ec73d5354dd2d5b0528107ed658dbfa0afbae189a9cd", func := "pith/pithlaw19.DeltaBack", spec := "deltaBack", apart := false }
def DeltaBackSaid : Prop := deltaBackRow.holds Try.pinned (OpenSpec.ofChange deltaBackSpec)

/-- ITS FALSE NEIGHBOUR: 'it returns false'. Refute it at one input. -/
def deltaBackWrong : ChangeSpec := { name := "deltaBack", fn := fun _ => fun
  | [d1, d2] => { results := [.lit (.bool false)], args := [d1, d2] }
  | _ => none }
def DeltaBackWrongFalsely : Prop := deltaBackRow.holds Try.pinned (OpenSpec.ofChange deltaBackWrong)

/-- 'pithlaw19.DeltaOne': WHATEVER THE INPUT: true; the input reads as it did. -/
def deltaOneSpec : ChangeSpec := { name := "deltaOne", fn := fun _ => fun
  | [d1, d2, d3, d4] => { results := [.lit (.bool true)], args := [d1, d2, d3, d4] }
  | _ => none }
def deltaOneRow : OpenClaim := { program := "ytlkbenlhngkibaa", sum := "b72b1658b3f70e9f4d28ec73d5354dd2d5b0528107ed658dbfa0afbae189a9cd", func := "pith/pithlaw19.DeltaOne", spec := "deltaOne", apart := false }
def DeltaOneSaid : Prop := deltaOneRow.holds Try.pinned (OpenSpec.ofChange deltaOneSpec)

/-- ITS FALSE NEIGHBOUR: 'it returns false'. Refute it at one input. -/
def deltaOneWrong : ChangeSpec := { name := "deltaOne", fn := fun _ => fun
  | [d1, d2, d3, d4] => { results := [.lit (.bool false)], args := [d1, d2, d3, d4] }
  | _ => none }
def DeltaOneWrongFalsely : Prop := deltaOneRow.holds Try.pinned (OpenSpec.ofChange deltaOneWrong)

/-- 'pithlaw19.DeltaRows': WHATEVER THE INPUT: true; the input reads as it did. -/
def deltaRowsSpec : ChangeSpec := { name := "deltaRows", fn := fun _ => fun
  | [d1, d2] => { results := [.lit (.bool true)], args := [d1, d2] }
  | _ => none }
def deltaRowsRow : OpenClaim := { program := "ytlkbenlhngkibaa", sum := "b72b1658b3f70e9f4d28ec73d5354dd2d5b0528107ed658dbfa0afbae189a9cd", func := "pith/pithlaw19.DeltaRows", spec := "deltaRows", apart := false }
def DeltaRowsSaid : Prop := deltaRowsRow.holds Try.pinned (OpenSpec.ofChange deltaRowsSpec)

/-- ITS FALSE NEIGHBOUR: 'it returns false'. Refute it at one input. -/
def deltaRowsWrong : ChangeSpec := { name := "deltaRows", fn := fun _ => fun
  | [d1, d2] => { results := [.lit (.bool false)], args := [d1, d2] }
  | _ => none }
def DeltaRowsWrongFalsely : Prop := deltaRowsRow.holds Try.pinned (OpenSpec.ofChange deltaRowsWrong)

/-- 'pithlaw19.DeltaCuts': WHATEVER THE INPUT: true; the input reads as it did. -/
def deltaCutsSpec : ChangeSpec := { name := "deltaCuts", fn := fun _ => fun
  | [d1, d2, d3] => { results := [.lit (.bool true)], args := [d1, d2, d3] }
  | _ => none }
def deltaCutsRow : OpenClaim := { program := "ytlkbenlhngkibaa", sum := "b72b1658b3f70e9f4d28ec73d5354dd2d5b0528107ed658dbfa0afbae189a9cd", func := "pith/pithlaw19.DeltaCuts", spec := "deltaCuts", apart := false }
def DeltaCutsSaid : Prop := deltaCutsRow.holds Try.pinned (OpenSpec.ofChange deltaCutsSpec)

/-- ITS FALSE NEIGHBOUR: 'it returns false'. Refute it at one input. -/
def deltaCutsWrong : ChangeSpec := { name := "deltaCuts", fn := fun _ => fun
  | [d1, d2, d3] => { results := [.lit (.bool false)], args := [d1, d2, d3] }
  | _ => none }
def DeltaCutsWrongFalsely : Prop := deltaCutsRow.holds Try.pinned (OpenSpec.ofChange deltaCutsWrong)

/- THE SECOND FORM. 'bulk': how many values and letters a reading holds, each counted each time it is reached (what is shared counts as often as it is met; a slice's spare places count too). A statement '..UptoSaid' is the law's where the arguments, and the package variables that the reading takes, are together of bulk at most 1048576: NARROWER than '..Said'. Prove '..Said' where nothing that the law and all that it calls make is longer than what came in: it says more and counts as full. Else prove '..UptoSaid'. A law counts once. -/
mutual
def uptoBulk {H : Type} : DataW H → Nat
  | .lit (.string bytes) => bytes.length + 1
  | .lit _ => 1
  | .nil => 1
  | .ptr d => uptoBulk d + 1
  | .slice elems spare => uptoBulkAll elems + uptoBulkAll spare + 1
  | .agg parts => uptoBulkAll parts + 1
  | .iface _ d => uptoBulk d + 1
  | .map entries => uptoBulkEntries entries + 1
  | .held _ => 1
def uptoBulkAll {H : Type} : List (DataW H) → Nat
  | [] => 0
  | d :: r => uptoBulk d + uptoBulkAll r
def uptoBulkEntries {H : Type} : List (Lit × DataW H) → Nat
  | [] => 0
  | x :: r => uptoBulkEntry x + uptoBulkEntries r
def uptoBulkEntry {H : Type} : Lit × DataW H → Nat
  | (.string bytes, d) => bytes.length + uptoBulk d + 1
  | (_, d) => uptoBulk d + 1
 end
def uptoSmall : (H : Type) → List (DataW H) → Bool := fun _ ds => decide (uptoBulkAll ds ≤ 1048576)
def OpenSpec.upto (s : _root_.Go.ChangeSpec) : _root_.Go.OpenSpec := { _root_.Go.OpenSpec.ofChange s with cond := some uptoSmall }

/-- 'pithlaw19.DeltaPieces', WHERE WHAT IT READS IS OF BULK AT MOST 1048576: true; the input reads as it did. -/
def deltaPiecesUptoRow : OpenClaim := { program := "ytlkbenlhngkibaa", sum := "b72b1658b3f70e9f4d28ec73d5354dd2d5b0528107ed658dbfa0afbae189a9cd", func := "pith/pithlaw19.DeltaPieces", spec := "deltaPieces", apart := false, narrowed := true }
def DeltaPiecesUptoSaid : Prop := deltaPiecesUptoRow.holds Try.pinned (OpenSpec.upto deltaPiecesSpec)

/-- 'pithlaw19.DeltaWhole', WHERE WHAT IT READS IS OF BULK AT MOST 1048576: true; the input reads as it did. -/
def deltaWholeUptoRow : OpenClaim := { program := "ytlkbenlhngkibaa", sum := "b72b1658b3f70e9f4d28ec73d5354dd2d5b0528107ed658dbfa0afbae189a9cd", func := "pith/pithlaw19.DeltaWhole", spec := "deltaWhole", apart := false, narrowed := true }
def DeltaWholeUptoSaid : Prop := deltaWholeUptoRow.holds Try.pinned (OpenSpec.upto deltaWholeSpec)

/-- 'pithlaw19.DeltaBack', WHERE WHAT IT READS IS OF BULK AT MOST 1048576: true; the input reads as it did. -/
def deltaBackUptoRow : OpenClaim := { program := "ytlkbenlhngkibaa", sum := "b72b1658b3f70e9f4d28ec73d5354dd2d5b0528107ed658dbfa0afbae189a9cd", func := "pith/pithlaw19.DeltaBack", spec := "deltaBack", apart := false, narrowed := true }
def DeltaBackUptoSaid : Prop := deltaBackUptoRow.holds Try.pinned (OpenSpec.upto deltaBackSpec)

/-- 'pithlaw19.DeltaOne', WHERE WHAT IT READS IS OF BULK AT MOST 1048576: true; the input reads as it did. -/
def deltaOneUptoRow : OpenClaim := { program := "ytlkbenlhngkibaa", sum := "b72b1658b3f70e9f4d28ec73d5354dd2d5b0528107ed658dbfa0afbae189a9cd", func := "pith/pithlaw19.DeltaOne", spec := "deltaOne", apart := false, narrowed := true }
def DeltaOneUptoSaid : Prop := deltaOneUptoRow.holds Try.pinned (OpenSpec.upto deltaOneSpec)

/-- 'pithlaw19.DeltaRows', WHERE WHAT IT READS IS OF BULK AT MOST 1048576: true; the input reads as it did. -/
def deltaRowsUptoRow : OpenClaim := { program := "ytlkbenlhngkibaa", sum := "b72b1658b3f70e9f4d28ec73d5354dd2d5b0528107ed658dbfa0afbae189a9cd", func := "pith/pithlaw19.DeltaRows", spec := "deltaRows", apart := false, narrowed := true }
def DeltaRowsUptoSaid : Prop := deltaRowsUptoRow.holds Try.pinned (OpenSpec.upto deltaRowsSpec)

/-- 'pithlaw19.DeltaCuts', WHERE WHAT IT READS IS OF BULK AT MOST 1048576: true; the input reads as it did. -/
def deltaCutsUptoRow : OpenClaim := { program := "ytlkbenlhngkibaa", sum := "b72b1658b3f70e9f4d28ec73d5354dd2d5b0528107ed658dbfa0afbae189a9cd", func := "pith/pithlaw19.DeltaCuts", spec := "deltaCuts", apart := false, narrowed := true }
def DeltaCutsUptoSaid : Prop := deltaCutsUptoRow.holds Try.pinned (OpenSpec.upto deltaCutsSpec)

end Rows
end Go.Proofs.Ytlkbenlhngkibaa
