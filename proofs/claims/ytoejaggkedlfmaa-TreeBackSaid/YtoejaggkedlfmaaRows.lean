/-
  No cell of these rows narrows 'for every input' (looked for: loops, veiled, ifaces, maps, wideKeys, modest, calm, conditions, laid).
  DERIVED. THE GIVEN ROWS OF THIS SEAT. 15 by the template 'for every input the law returns true; each argument reads behind the call as it read before'; 0 by the template 'total and deterministic' (their statements: YtoejaggkedlfmaaTotals.lean).
  GIVEN WITH THE SEED: the statements are not yours to turn. If you find one false, say at which input.
  Laid BY PROGRAM, IN A SANDBOX (cutbox-rows.mjs): the forced cells as the released guide's own fill.sh prints them over the translation cb2294eb6c71b2aa… (all of the seat's roots in one cut). By AI agents, Wed Nov 11 2026. No macro, syntax, notation, axiom, sorry.
-/
import Derived.Test.YtoejaggkedlfmaaChecked
import GoSem.Claim
import GoSem.ClaimJoined
import GoSem.ClaimMapViews
import Derived.JoinedTies
import Derived.KernelRfl
namespace Go.Proofs.Ytoejaggkedlfmaa
/- THE CELL 'sum', in the pinned program and in every row, IS THE sha256 OF THE DUMP (.gsa) THAT YtoejaggkedlfmaaProg.lean LOADS. Nothing in Lean hashes anything: it is a label: what it is worth is what the hold of that sum in a sandbox is worth. -/
noncomputable def Try.pinned : Pinned := { name := "ytoejaggkedlfmaa", sum := "cb2294eb6c71b2aa7e6c08613ab8248deb9cc5d6a4b03428c6519257a547a3c4", checked := Try.checked }
namespace Rows
def none {H : Type} : Left H := { results := [], args := [] }

/-- 'pithlaw07.RcencDirect': WHATEVER THE INPUT: true; the input reads as it did. -/
def rcencDirectSpec : ChangeSpec := { name := "rcencDirect", fn := fun _ => fun
  | [d1, d2] => { results := [.lit (.bool true)], args := [d1, d2] }
  | _ => none }
def rcencDirectRow : OpenClaim := { program := "ytoejaggkedlfmaa", sum := "cb2294eb6c71b2aa7e6c08613ab8248deb9cc5d6a4b03428c6519257a547a3c4", func := "pith/pithlaw07.RcencDirect", spec := "rcencDirect", apart := false }
def RcencDirectSaid : Prop := rcencDirectRow.holds Try.pinned (OpenSpec.ofChange rcencDirectSpec)

/-- ITS FALSE NEIGHBOUR: 'it returns false'. Refute it at one input. -/
def rcencDirectWrong : ChangeSpec := { name := "rcencDirect", fn := fun _ => fun
  | [d1, d2] => { results := [.lit (.bool false)], args := [d1, d2] }
  | _ => none }
def RcencDirectWrongFalsely : Prop := rcencDirectRow.holds Try.pinned (OpenSpec.ofChange rcencDirectWrong)

/-- 'pithlaw07.RcencOrder': WHATEVER THE INPUT: true; the input reads as it did. -/
def rcencOrderSpec : ChangeSpec := { name := "rcencOrder", fn := fun _ => fun
  | [d1, d2, d3] => { results := [.lit (.bool true)], args := [d1, d2, d3] }
  | _ => none }
def rcencOrderRow : OpenClaim := { program := "ytoejaggkedlfmaa", sum := "cb2294eb6c71b2aa7e6c08613ab8248deb9cc5d6a4b03428c6519257a547a3c4", func := "pith/pithlaw07.RcencOrder", spec := "rcencOrder", apart := false }
def RcencOrderSaid : Prop := rcencOrderRow.holds Try.pinned (OpenSpec.ofChange rcencOrderSpec)

/-- ITS FALSE NEIGHBOUR: 'it returns false'. Refute it at one input. -/
def rcencOrderWrong : ChangeSpec := { name := "rcencOrder", fn := fun _ => fun
  | [d1, d2, d3] => { results := [.lit (.bool false)], args := [d1, d2, d3] }
  | _ => none }
def RcencOrderWrongFalsely : Prop := rcencOrderRow.holds Try.pinned (OpenSpec.ofChange rcencOrderWrong)

/-- 'pithlaw07.RcencTurns': WHATEVER THE INPUT: true; the input reads as it did. -/
def rcencTurnsSpec : ChangeSpec := { name := "rcencTurns", fn := fun _ => fun
  | [d1, d2, d3] => { results := [.lit (.bool true)], args := [d1, d2, d3] }
  | _ => none }
def rcencTurnsRow : OpenClaim := { program := "ytoejaggkedlfmaa", sum := "cb2294eb6c71b2aa7e6c08613ab8248deb9cc5d6a4b03428c6519257a547a3c4", func := "pith/pithlaw07.RcencTurns", spec := "rcencTurns", apart := false }
def RcencTurnsSaid : Prop := rcencTurnsRow.holds Try.pinned (OpenSpec.ofChange rcencTurnsSpec)

/-- ITS FALSE NEIGHBOUR: 'it returns false'. Refute it at one input. -/
def rcencTurnsWrong : ChangeSpec := { name := "rcencTurns", fn := fun _ => fun
  | [d1, d2, d3] => { results := [.lit (.bool false)], args := [d1, d2, d3] }
  | _ => none }
def RcencTurnsWrongFalsely : Prop := rcencTurnsRow.holds Try.pinned (OpenSpec.ofChange rcencTurnsWrong)

/-- 'pithlaw07.RcencPlays': WHATEVER THE INPUT: true; the input reads as it did. -/
def rcencPlaysSpec : ChangeSpec := { name := "rcencPlays", fn := fun _ => fun
  | [d1, d2, d3] => { results := [.lit (.bool true)], args := [d1, d2, d3] }
  | _ => none }
def rcencPlaysRow : OpenClaim := { program := "ytoejaggkedlfmaa", sum := "cb2294eb6c71b2aa7e6c08613ab8248deb9cc5d6a4b03428c6519257a547a3c4", func := "pith/pithlaw07.RcencPlays", spec := "rcencPlays", apart := false }
def RcencPlaysSaid : Prop := rcencPlaysRow.holds Try.pinned (OpenSpec.ofChange rcencPlaysSpec)

/-- ITS FALSE NEIGHBOUR: 'it returns false'. Refute it at one input. -/
def rcencPlaysWrong : ChangeSpec := { name := "rcencPlays", fn := fun _ => fun
  | [d1, d2, d3] => { results := [.lit (.bool false)], args := [d1, d2, d3] }
  | _ => none }
def RcencPlaysWrongFalsely : Prop := rcencPlaysRow.holds Try.pinned (OpenSpec.ofChange rcencPlaysWrong)

/-- 'pithlaw07.RcencAsked': WHATEVER THE INPUT: true; the input reads as it did. -/
def rcencAskedSpec : ChangeSpec := { name := "rcencAsked", fn := fun _ => fun
  | [d1, d2, d3] => { results := [.lit (.bool true)], args := [d1, d2, d3] }
  | _ => none }
def rcencAskedRow : OpenClaim := { program := "ytoejaggkedlfmaa", sum := "cb2294eb6c71b2aa7e6c08613ab8248deb9cc5d6a4b03428c6519257a547a3c4", func := "pith/pithlaw07.RcencAsked", spec := "rcencAsked", apart := false }
def RcencAskedSaid : Prop := rcencAskedRow.holds Try.pinned (OpenSpec.ofChange rcencAskedSpec)

/-- ITS FALSE NEIGHBOUR: 'it returns false'. Refute it at one input. -/
def rcencAskedWrong : ChangeSpec := { name := "rcencAsked", fn := fun _ => fun
  | [d1, d2, d3] => { results := [.lit (.bool false)], args := [d1, d2, d3] }
  | _ => none }
def RcencAskedWrongFalsely : Prop := rcencAskedRow.holds Try.pinned (OpenSpec.ofChange rcencAskedWrong)

/-- 'pithlaw08.RcdecExact': WHATEVER THE INPUT: true; the input reads as it did. -/
def rcdecExactSpec : ChangeSpec := { name := "rcdecExact", fn := fun _ => fun
  | [d1, d2, d3] => { results := [.lit (.bool true)], args := [d1, d2, d3] }
  | _ => none }
def rcdecExactRow : OpenClaim := { program := "ytoejaggkedlfmaa", sum := "cb2294eb6c71b2aa7e6c08613ab8248deb9cc5d6a4b03428c6519257a547a3c4", func := "pith/pithlaw08.RcdecExact", spec := "rcdecExact", unfollowed := true, recurses := true, apart := false }
def RcdecExactSaid : Prop := rcdecExactRow.holds Try.pinned (OpenSpec.ofChange rcdecExactSpec)

/-- ITS FALSE NEIGHBOUR: 'it returns false'. Refute it at one input. -/
def rcdecExactWrong : ChangeSpec := { name := "rcdecExact", fn := fun _ => fun
  | [d1, d2, d3] => { results := [.lit (.bool false)], args := [d1, d2, d3] }
  | _ => none }
def RcdecExactWrongFalsely : Prop := rcdecExactRow.holds Try.pinned (OpenSpec.ofChange rcdecExactWrong)

/-- 'pithlaw08.RcdecBegins': WHATEVER THE INPUT: true; the input reads as it did. -/
def rcdecBeginsSpec : ChangeSpec := { name := "rcdecBegins", fn := fun _ => fun
  | [d1, d2, d3] => { results := [.lit (.bool true)], args := [d1, d2, d3] }
  | _ => none }
def rcdecBeginsRow : OpenClaim := { program := "ytoejaggkedlfmaa", sum := "cb2294eb6c71b2aa7e6c08613ab8248deb9cc5d6a4b03428c6519257a547a3c4", func := "pith/pithlaw08.RcdecBegins", spec := "rcdecBegins", unfollowed := true, recurses := true, apart := false }
def RcdecBeginsSaid : Prop := rcdecBeginsRow.holds Try.pinned (OpenSpec.ofChange rcdecBeginsSpec)

/-- ITS FALSE NEIGHBOUR: 'it returns false'. Refute it at one input. -/
def rcdecBeginsWrong : ChangeSpec := { name := "rcdecBegins", fn := fun _ => fun
  | [d1, d2, d3] => { results := [.lit (.bool false)], args := [d1, d2, d3] }
  | _ => none }
def RcdecBeginsWrongFalsely : Prop := rcdecBeginsRow.holds Try.pinned (OpenSpec.ofChange rcdecBeginsWrong)

/-- 'pithlaw08.RcdecApart': WHATEVER THE INPUT: true; the input reads as it did. -/
def rcdecApartSpec : ChangeSpec := { name := "rcdecApart", fn := fun _ => fun
  | [d1, d2, d3] => { results := [.lit (.bool true)], args := [d1, d2, d3] }
  | _ => none }
def rcdecApartRow : OpenClaim := { program := "ytoejaggkedlfmaa", sum := "cb2294eb6c71b2aa7e6c08613ab8248deb9cc5d6a4b03428c6519257a547a3c4", func := "pith/pithlaw08.RcdecApart", spec := "rcdecApart", unfollowed := true, recurses := true, apart := false }
def RcdecApartSaid : Prop := rcdecApartRow.holds Try.pinned (OpenSpec.ofChange rcdecApartSpec)

/-- ITS FALSE NEIGHBOUR: 'it returns false'. Refute it at one input. -/
def rcdecApartWrong : ChangeSpec := { name := "rcdecApart", fn := fun _ => fun
  | [d1, d2, d3] => { results := [.lit (.bool false)], args := [d1, d2, d3] }
  | _ => none }
def RcdecApartWrongFalsely : Prop := rcdecApartRow.holds Try.pinned (OpenSpec.ofChange rcdecApartWrong)

/-- 'pithlaw09.TreeCheaper': WHATEVER THE INPUT: true; the input reads as it did. -/
def treeCheaperSpec : ChangeSpec := { name := "treeCheaper", fn := fun _ => fun
  | [d1, d2, d3] => { results := [.lit (.bool true)], args := [d1, d2, d3] }
  | _ => none }
def treeCheaperRow : OpenClaim := { program := "ytoejaggkedlfmaa", sum := "cb2294eb6c71b2aa7e6c08613ab8248deb9cc5d6a4b03428c6519257a547a3c4", func := "pith/pithlaw09.TreeCheaper", spec := "treeCheaper", unfollowed := true, recurses := true, apart := false }
def TreeCheaperSaid : Prop := treeCheaperRow.holds Try.pinned (OpenSpec.ofChange treeCheaperSpec)

/-- ITS FALSE NEIGHBOUR: 'it returns false'. Refute it at one input. -/
def treeCheaperWrong : ChangeSpec := { name := "treeCheaper", fn := fun _ => fun
  | [d1, d2, d3] => { results := [.lit (.bool false)], args := [d1, d2, d3] }
  | _ => none }
def TreeCheaperWrongFalsely : Prop := treeCheaperRow.holds Try.pinned (OpenSpec.ofChange treeCheaperWrong)

/-- 'pithlaw09.TreeTwoOrders': WHATEVER THE INPUT: true; the input reads as it did. -/
def treeTwoOrdersSpec : ChangeSpec := { name := "treeTwoOrders", fn := fun _ => fun
  | [d1, d2, d3] => { results := [.lit (.bool true)], args := [d1, d2, d3] }
  | _ => none }
def treeTwoOrdersRow : OpenClaim := { program := "ytoejaggkedlfmaa", sum := "cb2294eb6c71b2aa7e6c08613ab8248deb9cc5d6a4b03428c6519257a547a3c4", func := "pith/pithlaw09.TreeTwoOrders", spec := "treeTwoOrders", unfollowed := true, recurses := true, apart := false }
def TreeTwoOrdersSaid : Prop := treeTwoOrdersRow.holds Try.pinned (OpenSpec.ofChange treeTwoOrdersSpec)

/-- ITS FALSE NEIGHBOUR: 'it returns false'. Refute it at one input. -/
def treeTwoOrdersWrong : ChangeSpec := { name := "treeTwoOrders", fn := fun _ => fun
  | [d1, d2, d3] => { results := [.lit (.bool false)], args := [d1, d2, d3] }
  | _ => none }
def TreeTwoOrdersWrongFalsely : Prop := treeTwoOrdersRow.holds Try.pinned (OpenSpec.ofChange treeTwoOrdersWrong)

/-- 'pithlaw09.TreeCodes': WHATEVER THE INPUT: true; the input reads as it did. -/
def treeCodesSpec : ChangeSpec := { name := "treeCodes", fn := fun _ => fun
  | [d1, d2] => { results := [.lit (.bool true)], args := [d1, d2] }
  | _ => none }
def treeCodesRow : OpenClaim := { program := "ytoejaggkedlfmaa", sum := "cb2294eb6c71b2aa7e6c08613ab8248deb9cc5d6a4b03428c6519257a547a3c4", func := "pith/pithlaw09.TreeCodes", spec := "treeCodes", unfollowed := true, recurses := true, apart := false }
def TreeCodesSaid : Prop := treeCodesRow.holds Try.pinned (OpenSpec.ofChange treeCodesSpec)

/-- ITS FALSE NEIGHBOUR: 'it returns false'. Refute it at one input. -/
def treeCodesWrong : ChangeSpec := { name := "treeCodes", fn := fun _ => fun
  | [d1, d2] => { results := [.lit (.bool false)], args := [d1, d2] }
  | _ => none }
def TreeCodesWrongFalsely : Prop := treeCodesRow.holds Try.pinned (OpenSpec.ofChange treeCodesWrong)

/-- 'pithlaw08.RcdecBack': WHATEVER THE INPUT: true; the input reads as it did. -/
def rcdecBackSpec : ChangeSpec := { name := "rcdecBack", fn := fun _ => fun
  | [d1, d2, d3] => { results := [.lit (.bool true)], args := [d1, d2, d3] }
  | _ => none }
def rcdecBackRow : OpenClaim := { program := "ytoejaggkedlfmaa", sum := "cb2294eb6c71b2aa7e6c08613ab8248deb9cc5d6a4b03428c6519257a547a3c4", func := "pith/pithlaw08.RcdecBack", spec := "rcdecBack", unfollowed := true, recurses := true, apart := false }
def RcdecBackSaid : Prop := rcdecBackRow.holds Try.pinned (OpenSpec.ofChange rcdecBackSpec)

/-- ITS FALSE NEIGHBOUR: 'it returns false'. Refute it at one input. -/
def rcdecBackWrong : ChangeSpec := { name := "rcdecBack", fn := fun _ => fun
  | [d1, d2, d3] => { results := [.lit (.bool false)], args := [d1, d2, d3] }
  | _ => none }
def RcdecBackWrongFalsely : Prop := rcdecBackRow.holds Try.pinned (OpenSpec.ofChange rcdecBackWrong)

/-- 'pithlaw08.RcdecAgain': WHATEVER THE INPUT: true; the input reads as it did. -/
def rcdecAgainSpec : ChangeSpec := { name := "rcdecAgain", fn := fun _ => fun
  | [d1, d2, d3] => { results := [.lit (.bool true)], args := [d1, d2, d3] }
  | _ => none }
def rcdecAgainRow : OpenClaim := { program := "ytoejaggkedlfmaa", sum := "cb2294eb6c71b2aa7e6c08613ab8248deb9cc5d6a4b03428c6519257a547a3c4", func := "pith/pithlaw08.RcdecAgain", spec := "rcdecAgain", unfollowed := true, recurses := true, apart := false }
def RcdecAgainSaid : Prop := rcdecAgainRow.holds Try.pinned (OpenSpec.ofChange rcdecAgainSpec)

/-- ITS FALSE NEIGHBOUR: 'it returns false'. Refute it at one input. -/
def rcdecAgainWrong : ChangeSpec := { name := "rcdecAgain", fn := fun _ => fun
  | [d1, d2, d3] => { results := [.lit (.bool false)], args := [d1, d2, d3] }
  | _ => none }
def RcdecAgainWrongFalsely : Prop := rcdecAgainRow.holds Try.pinned (OpenSpec.ofChange rcdecAgainWrong)

/-- 'pithlaw09.TreeReads': WHATEVER THE INPUT: true; the input reads as it did. -/
def treeReadsSpec : ChangeSpec := { name := "treeReads", fn := fun _ => fun
  | [d1, d2, d3] => { results := [.lit (.bool true)], args := [d1, d2, d3] }
  | _ => none }
def treeReadsRow : OpenClaim := { program := "ytoejaggkedlfmaa", sum := "cb2294eb6c71b2aa7e6c08613ab8248deb9cc5d6a4b03428c6519257a547a3c4", func := "pith/pithlaw09.TreeReads", spec := "treeReads", unfollowed := true, recurses := true, apart := false }
def TreeReadsSaid : Prop := treeReadsRow.holds Try.pinned (OpenSpec.ofChange treeReadsSpec)

/-- ITS FALSE NEIGHBOUR: 'it returns false'. Refute it at one input. -/
def treeReadsWrong : ChangeSpec := { name := "treeReads", fn := fun _ => fun
  | [d1, d2, d3] => { results := [.lit (.bool false)], args := [d1, d2, d3] }
  | _ => none }
def TreeReadsWrongFalsely : Prop := treeReadsRow.holds Try.pinned (OpenSpec.ofChange treeReadsWrong)

/-- 'pithlaw09.TreeBack': WHATEVER THE INPUT: true; the input reads as it did. -/
def treeBackSpec : ChangeSpec := { name := "treeBack", fn := fun _ => fun
  | [d1, d2] => { results := [.lit (.bool true)], args := [d1, d2] }
  | _ => none }
def treeBackRow : OpenClaim := { program := "ytoejaggkedlfmaa", sum := "cb2294eb6c71b2aa7e6c08613ab8248deb9cc5d6a4b03428c6519257a547a3c4", func := "pith/pithlaw09.TreeBack", spec := "treeBack", unfollowed := true, recurses := true, apart := false }
def TreeBackSaid : Prop := treeBackRow.holds Try.pinned (OpenSpec.ofChange treeBackSpec)

/-- ITS FALSE NEIGHBOUR: 'it returns false'. Refute it at one input. -/
def treeBackWrong : ChangeSpec := { name := "treeBack", fn := fun _ => fun
  | [d1, d2] => { results := [.lit (.bool false)], args := [d1, d2] }
  | _ => none }
def TreeBackWrongFalsely : Prop := treeBackRow.holds Try.pinned (OpenSpec.ofChange treeBackWrong)

/- THE SECOND FORM. 'bulk': how many values and letters a reading holds, each counted each time it is reached (what is shared counts as often as it is met; a slice's spare places count too). A statement '..UptoSaid' is the law's where the arguments, and the package variables that the reading takes, are together of bulk at most 1048576: NARROWER than '..Said'. Prove '..Said' where nothing that the law and all that it calls make is longer than what came in: it says more and counts as full. Else prove '..UptoSaid'. A law counts once. -/
mutual
def uptoBulk {H : Type} : DataW H → Nat
  | .lit (.string bytes) => bytes.length + 1
  | .lit _ => 1
  | .nil => 1
  | .ptr d => uptoBulk d + 1
  | .slice elems spare => uptoBulkAll elems + uptoBulkAll spare + 1
  | .agg parts => uptoBulkAll parts + 1
  | .iface _ d => uptoBulk d + 1
  | .map entries => uptoBulkEntries entries + 1
  | .held _ => 1
def uptoBulkAll {H : Type} : List (DataW H) → Nat
  | [] => 0
  | d :: r => uptoBulk d + uptoBulkAll r
def uptoBulkEntries {H : Type} : List (Lit × DataW H) → Nat
  | [] => 0
  | x :: r => uptoBulkEntry x + uptoBulkEntries r
def uptoBulkEntry {H : Type} : Lit × DataW H → Nat
  | (.string bytes, d) => bytes.length + uptoBulk d + 1
  | (_, d) => uptoBulk d + 1
 end
def uptoSmall : (H : Type) → List (DataW H) → Bool := fun _ ds => decide (uptoBulkAll ds ≤ 1048576)
def OpenSpec.upto (s : _root_.Go.ChangeSpec) : _root_.Go.OpenSpec := { _root_.Go.OpenSpec.ofChange s with cond := some uptoSmall }

/-- 'pithlaw07.RcencDirect', WHERE WHAT IT READS IS OF BULK AT MOST 1048576: true; the input reads as it did. -/
def rcencDirectUptoRow : OpenClaim := { program := "ytoejaggkedlfmaa", sum := "cb2294eb6c71b2aa7e6c08613ab8248deb9cc5d6a4b03428c6519257a547a3c4", func := "pith/pithlaw07.RcencDirect", spec := "rcencDirect", apart := false, narrowed := true }
def RcencDirectUptoSaid : Prop := rcencDirectUptoRow.holds Try.pinned (OpenSpec.upto rcencDirectSpec)

/-- 'pithlaw07.RcencOrder', WHERE WHAT IT READS IS OF BULK AT MOST 1048576: true; the input reads as it did. -/
def rcencOrderUptoRow : OpenClaim := { program := "ytoejaggkedlfmaa", sum := "cb2294eb6c71b2aa7e6c08613ab8248deb9cc5d6a4b03428c6519257a547a3c4", func := "pith/pithlaw07.RcencOrder", spec := "rcencOrder", apart := false, narrowed := true }
def RcencOrderUptoSaid : Prop := rcencOrderUptoRow.holds Try.pinned (OpenSpec.upto rcencOrderSpec)

/-- 'pithlaw07.RcencTurns', WHERE WHAT IT READS IS OF BULK AT MOST 1048576: true; the input reads as it did. -/
def rcencTurnsUptoRow : OpenClaim := { program := "ytoejaggkedlfmaa", sum := "cb2294eb6c71b2aa7e6c08613ab8248deb9cc5d6a4b03428c6519257a547a3c4", func := "pith/pithlaw07.RcencTurns", spec := "rcencTurns", apart := false, narrowed := true }
def RcencTurnsUptoSaid : Prop := rcencTurnsUptoRow.holds Try.pinned (OpenSpec.upto rcencTurnsSpec)

/-- 'pithlaw07.RcencPlays', WHERE WHAT IT READS IS OF BULK AT MOST 1048576: true; the input reads as it did. -/
def rcencPlaysUptoRow : OpenClaim := { program := "ytoejaggkedlfmaa", sum := "cb2294eb6c71b2aa7e6c08613ab8248deb9cc5d6a4b03428c6519257a547a3c4", func := "pith/pithlaw07.RcencPlays", spec := "rcencPlays", apart := false, narrowed := true }
def RcencPlaysUptoSaid : Prop := rcencPlaysUptoRow.holds Try.pinned (OpenSpec.upto rcencPlaysSpec)

/-- 'pithlaw07.RcencAsked', WHERE WHAT IT READS IS OF BULK AT MOST 1048576: true; the input reads as it did. -/
def rcencAskedUptoRow : OpenClaim := { program := "ytoejaggkedlfmaa", sum := "cb2294eb6c71b2aa7e6c08613ab8248deb9cc5d6a4b03428c6519257a547a3c4", func := "pith/pithlaw07.RcencAsked", spec := "rcencAsked", apart := false, narrowed := true }
def RcencAskedUptoSaid : Prop := rcencAskedUptoRow.holds Try.pinned (OpenSpec.upto rcencAskedSpec)

/-- 'pithlaw08.RcdecExact', WHERE WHAT IT READS IS OF BULK AT MOST 1048576: true; the input reads as it did. -/
def rcdecExactUptoRow : OpenClaim := { program := "ytoejaggkedlfmaa", sum := "cb2294eb6c71b2aa7e6c08613ab8248deb9cc5d6a4b03428c6519257a547a3c4", func := "pith/pithlaw08.RcdecExact", spec := "rcdecExact", unfollowed := true, recurses := true, apart := false, narrowed := true }
def RcdecExactUptoSaid : Prop := rcdecExactUptoRow.holds Try.pinned (OpenSpec.upto rcdecExactSpec)

/-- 'pithlaw08.RcdecBegins', WHERE WHAT IT READS IS OF BULK AT MOST 1048576: true; the input reads as it did. -/
def rcdecBeginsUptoRow : OpenClaim := { program := "ytoejaggkedlfmaa", sum := "cb2294eb6c71b2aa7e6c08613ab8248deb9cc5d6a4b03428c6519257a547a3c4", func := "pith/pithlaw08.RcdecBegins", spec := "rcdecBegins", unfollowed := true, recurses := true, apart := false, narrowed := true }
def RcdecBeginsUptoSaid : Prop := rcdecBeginsUptoRow.holds Try.pinned (OpenSpec.upto rcdecBeginsSpec)

/-- 'pithlaw08.RcdecApart', WHERE WHAT IT READS IS OF BULK AT MOST 1048576: true; the input reads as it did. -/
def rcdecApartUptoRow : OpenClaim := { program := "ytoejaggkedlfmaa", sum := "cb2294eb6c71b2aa7e6c08613ab8248deb9cc5d6a4b03428c6519257a547a3c4", func := "pith/pithlaw08.RcdecApart", spec := "rcdecApart", unfollowed := true, recurses := true, apart := false, narrowed := true }
def RcdecApartUptoSaid : Prop := rcdecApartUptoRow.holds Try.pinned (OpenSpec.upto rcdecApartSpec)

/-- 'pithlaw09.TreeCheaper', WHERE WHAT IT READS IS OF BULK AT MOST 1048576: true; the input reads as it did. -/
def treeCheaperUptoRow : OpenClaim := { program := "ytoejaggkedlfmaa", sum := "cb2294eb6c71b2aa7e6c08613ab8248deb9cc5d6a4b03428c6519257a547a3c4", func := "pith/pithlaw09.TreeCheaper", spec := "treeCheaper", unfollowed := true, recurses := true, apart := false, narrowed := true }
def TreeCheaperUptoSaid : Prop := treeCheaperUptoRow.holds Try.pinned (OpenSpec.upto treeCheaperSpec)

/-- 'pithlaw09.TreeTwoOrders', WHERE WHAT IT READS IS OF BULK AT MOST 1048576: true; the input reads as it did. -/
def treeTwoOrdersUptoRow : OpenClaim := { program := "ytoejaggkedlfmaa", sum := "cb2294eb6c71b2aa7e6c08613ab8248deb9cc5d6a4b03428c6519257a547a3c4", func := "pith/pithlaw09.TreeTwoOrders", spec := "treeTwoOrders", unfollowed := true, recurses := true, apart := false, narrowed := true }
def TreeTwoOrdersUptoSaid : Prop := treeTwoOrdersUptoRow.holds Try.pinned (OpenSpec.upto treeTwoOrdersSpec)

/-- 'pithlaw09.TreeCodes', WHERE WHAT IT READS IS OF BULK AT MOST 1048576: true; the input reads as it did. -/
def treeCodesUptoRow : OpenClaim := { program := "ytoejaggkedlfmaa", sum := "cb2294eb6c71b2aa7e6c08613ab8248deb9cc5d6a4b03428c6519257a547a3c4", func := "pith/pithlaw09.TreeCodes", spec := "treeCodes", unfollowed := true, recurses := true, apart := false, narrowed := true }
def TreeCodesUptoSaid : Prop := treeCodesUptoRow.holds Try.pinned (OpenSpec.upto treeCodesSpec)

/-- 'pithlaw08.RcdecBack', WHERE WHAT IT READS IS OF BULK AT MOST 1048576: true; the input reads as it did. -/
def rcdecBackUptoRow : OpenClaim := { program := "ytoejaggkedlfmaa", sum := "cb2294eb6c71b2aa7e6c08613ab8248deb9cc5d6a4b03428c6519257a547a3c4", func := "pith/pithlaw08.RcdecBack", spec := "rcdecBack", unfollowed := true, recurses := true, apart := false, narrowed := true }
def RcdecBackUptoSaid : Prop := rcdecBackUptoRow.holds Try.pinned (OpenSpec.upto rcdecBackSpec)

/-- 'pithlaw08.RcdecAgain', WHERE WHAT IT READS IS OF BULK AT MOST 1048576: true; the input reads as it did. -/
def rcdecAgainUptoRow : OpenClaim := { program := "ytoejaggkedlfmaa", sum := "cb2294eb6c71b2aa7e6c08613ab8248deb9cc5d6a4b03428c6519257a547a3c4", func := "pith/pithlaw08.RcdecAgain", spec := "rcdecAgain", unfollowed := true, recurses := true, apart := false, narrowed := true }
def RcdecAgainUptoSaid : Prop := rcdecAgainUptoRow.holds Try.pinned (OpenSpec.upto rcdecAgainSpec)

/-- 'pithlaw09.TreeReads', WHERE WHAT IT READS IS OF BULK AT MOST 1048576: true; the input reads as it did. -/
def treeReadsUptoRow : OpenClaim := { program := "ytoejaggkedlfmaa", sum := "cb2294eb6c71b2aa7e6c08613ab8248deb9cc5d6a4b03428c6519257a547a3c4", func := "pith/pithlaw09.TreeReads", spec := "treeReads", unfollowed := true, recurses := true, apart := false, narrowed := true }
def TreeReadsUptoSaid : Prop := treeReadsUptoRow.holds Try.pinned (OpenSpec.upto treeReadsSpec)

/-- 'pithlaw09.TreeBack', WHERE WHAT IT READS IS OF BULK AT MOST 1048576: true; the input reads as it did. -/
def treeBackUptoRow : OpenClaim := { program := "ytoejaggkedlfmaa", sum := "cb2294eb6c71b2aa7e6c08613ab8248deb9cc5d6a4b03428c6519257a547a3c4", func := "pith/pithlaw09.TreeBack", spec := "treeBack", unfollowed := true, recurses := true, apart := false, narrowed := true }
def TreeBackUptoSaid : Prop := treeBackUptoRow.holds Try.pinned (OpenSpec.upto treeBackSpec)

end Rows
end Go.Proofs.Ytoejaggkedlfmaa
