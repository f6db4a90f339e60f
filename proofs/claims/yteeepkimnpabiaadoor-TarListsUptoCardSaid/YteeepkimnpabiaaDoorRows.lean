/-
  NARROWER THAN 'FOR EVERY INPUT', by the rows' own cells (each row's printed sentence says how): TarTold: laid · TarExact: laid · TarBack: laid · TarSole: laid · TarLists: laid.
  DERIVED. THE GIVEN ROWS OF THIS SEAT. 5 by the template 'for every input the law returns true; each argument reads behind the call as it read before'; 0 by the template 'total and deterministic' (their statements: YteeepkimnpabiaaDoorTotals.lean).
  GIVEN WITH THE SEED: the statements are not yours to turn. If you find one false, say at which input.
  Laid BY PROGRAM, IN A SANDBOX (cutbox-rows.mjs): the forced cells as the released guide's own fill.sh prints them over the translation df415c8608e7c420… (all of the seat's roots in one cut). By AI agents, Wed Nov 11 2026. No macro, syntax, notation, axiom, sorry.
-/
import Derived.Test.YteeepkimnpabiaaDoorChecked
import GoSem.PinnedTables
import GoSem.Claim
import GoSem.ClaimJoined
import GoSem.ClaimMapViews
import Derived.JoinedTies
import Derived.KernelRfl
namespace Go.Proofs.YteeepkimnpabiaaDoor
/- THE CELL 'sum', in the pinned program and in every row, IS THE sha256 OF THE DUMP (.gsa) THAT YteeepkimnpabiaaDoorProg.lean LOADS. Nothing in Lean hashes anything: it is a label: what it is worth is what the hold of that sum in a sandbox is worth. -/
noncomputable def Tryd.pinned : Pinned := { name := "yteeepkimnpabiaadoor", sum := "df415c8608e7c42068f131c47a325922b9c9a086f0fe564024d478f9c51d2fde", checked := Tryd.checked }
namespace Rows
def none {H : Type} : Left H := { results := [], args := [] }

/- WHAT THE LISTED PACKAGE-LEVEL VARIABLES READ AS WHEN THE CALL BEGINS. Each datum BY PROGRAM (the guide's laid-datum.mjs) off the statement by which the dump's own 'gosem.cut.vars' lays the variable. In a bare row this is a premise. The card (YteeepkimnpabiaaDoorCards.lean) ties it to the program's text. -/
def laid_unicode_utf8_acceptRanges {H : Type} : DataW H := .agg [.agg [.lit (.int .u8 128), .lit (.int .u8 191)], .agg [.lit (.int .u8 160), .lit (.int .u8 191)], .agg [.lit (.int .u8 128), .lit (.int .u8 159)], .agg [.lit (.int .u8 144), .lit (.int .u8 191)], .agg [.lit (.int .u8 128), .lit (.int .u8 143)], .agg [.lit (.int .u8 0), .lit (.int .u8 0)], .agg [.lit (.int .u8 0), .lit (.int .u8 0)], .agg [.lit (.int .u8 0), .lit (.int .u8 0)], .agg [.lit (.int .u8 0), .lit (.int .u8 0)], .agg [.lit (.int .u8 0), .lit (.int .u8 0)], .agg [.lit (.int .u8 0), .lit (.int .u8 0)], .agg [.lit (.int .u8 0), .lit (.int .u8 0)], .agg [.lit (.int .u8 0), .lit (.int .u8 0)], .agg [.lit (.int .u8 0), .lit (.int .u8 0)], .agg [.lit (.int .u8 0), .lit (.int .u8 0)], .agg [.lit (.int .u8 0), .lit (.int .u8 0)]]
/-- One of Go's own tables, pinned by name: the form's constant. -/
def laid_unicode_utf8_first : DataW Unit := Go.Pinned.utf8First

/-- 'pithlaw33.TarTold': WHATEVER THE INPUT: true; the input reads as it did. -/
def tarToldSpec : ChangeSpec := { name := "tarTold", fn := fun _ => fun
  | [d1, d2, d3] => { results := [.lit (.bool true)], args := [d1, d2, d3] }
  | _ => none }
def tarToldRow : OpenClaim := { program := "yteeepkimnpabiaadoor", sum := "df415c8608e7c42068f131c47a325922b9c9a086f0fe564024d478f9c51d2fde", func := "pith/pithlaw33.TarTold", spec := "tarTold", inPlace := ["internal/bytealg.IndexByteString", "internal/bytealg.IndexByte", "internal/bytealg.Index"], unfollowed := true, recurses := true, named := ["internal/bytealg.MaxLen", "unicode/utf8.first", "unicode/utf8.acceptRanges"], apart := false, laid := [("unicode/utf8.acceptRanges", laid_unicode_utf8_acceptRanges), ("unicode/utf8.first", laid_unicode_utf8_first)] }
def TarToldSaid : Prop := tarToldRow.holds Tryd.pinned (OpenSpec.ofChange tarToldSpec)

/-- ITS FALSE NEIGHBOUR: 'it returns false'. Refute it at one input. -/
def tarToldWrong : ChangeSpec := { name := "tarTold", fn := fun _ => fun
  | [d1, d2, d3] => { results := [.lit (.bool false)], args := [d1, d2, d3] }
  | _ => none }
def TarToldWrongFalsely : Prop := tarToldRow.holds Tryd.pinned (OpenSpec.ofChange tarToldWrong)

/-- 'pithlaw33.TarExact': WHATEVER THE INPUT: true; the input reads as it did. -/
def tarExactSpec : ChangeSpec := { name := "tarExact", fn := fun _ => fun
  | [d1, d2] => { results := [.lit (.bool true)], args := [d1, d2] }
  | _ => none }
def tarExactRow : OpenClaim := { program := "yteeepkimnpabiaadoor", sum := "df415c8608e7c42068f131c47a325922b9c9a086f0fe564024d478f9c51d2fde", func := "pith/pithlaw33.TarExact", spec := "tarExact", inPlace := ["internal/bytealg.IndexByteString", "internal/bytealg.IndexByte", "internal/bytealg.Index"], unfollowed := true, recurses := true, named := ["internal/bytealg.MaxLen", "unicode/utf8.first", "unicode/utf8.acceptRanges"], apart := false, laid := [("unicode/utf8.acceptRanges", laid_unicode_utf8_acceptRanges), ("unicode/utf8.first", laid_unicode_utf8_first)] }
def TarExactSaid : Prop := tarExactRow.holds Tryd.pinned (OpenSpec.ofChange tarExactSpec)

/-- ITS FALSE NEIGHBOUR: 'it returns false'. Refute it at one input. -/
def tarExactWrong : ChangeSpec := { name := "tarExact", fn := fun _ => fun
  | [d1, d2] => { results := [.lit (.bool false)], args := [d1, d2] }
  | _ => none }
def TarExactWrongFalsely : Prop := tarExactRow.holds Tryd.pinned (OpenSpec.ofChange tarExactWrong)

/-- 'pithlaw33.TarBack': WHATEVER THE INPUT: true; the input reads as it did. -/
def tarBackSpec : ChangeSpec := { name := "tarBack", fn := fun _ => fun
  | [d1, d2] => { results := [.lit (.bool true)], args := [d1, d2] }
  | _ => none }
def tarBackRow : OpenClaim := { program := "yteeepkimnpabiaadoor", sum := "df415c8608e7c42068f131c47a325922b9c9a086f0fe564024d478f9c51d2fde", func := "pith/pithlaw33.TarBack", spec := "tarBack", inPlace := ["internal/bytealg.IndexByteString", "internal/bytealg.IndexByte", "internal/bytealg.Index"], unfollowed := true, recurses := true, named := ["unicode/utf8.first", "unicode/utf8.acceptRanges", "internal/bytealg.MaxLen"], apart := false, laid := [("unicode/utf8.acceptRanges", laid_unicode_utf8_acceptRanges), ("unicode/utf8.first", laid_unicode_utf8_first)] }
def TarBackSaid : Prop := tarBackRow.holds Tryd.pinned (OpenSpec.ofChange tarBackSpec)

/-- ITS FALSE NEIGHBOUR: 'it returns false'. Refute it at one input. -/
def tarBackWrong : ChangeSpec := { name := "tarBack", fn := fun _ => fun
  | [d1, d2] => { results := [.lit (.bool false)], args := [d1, d2] }
  | _ => none }
def TarBackWrongFalsely : Prop := tarBackRow.holds Tryd.pinned (OpenSpec.ofChange tarBackWrong)

/-- 'pithlaw33.TarSole': WHATEVER THE INPUT: true; the input reads as it did. -/
def tarSoleSpec : ChangeSpec := { name := "tarSole", fn := fun _ => fun
  | [d] => { results := [.lit (.bool true)], args := [d] }
  | _ => none }
def tarSoleRow : OpenClaim := { program := "yteeepkimnpabiaadoor", sum := "df415c8608e7c42068f131c47a325922b9c9a086f0fe564024d478f9c51d2fde", func := "pith/pithlaw33.TarSole", spec := "tarSole", inPlace := ["internal/bytealg.IndexByteString", "internal/bytealg.IndexByte", "internal/bytealg.Index"], unfollowed := true, recurses := true, named := ["unicode/utf8.first", "unicode/utf8.acceptRanges", "internal/bytealg.MaxLen"], apart := false, laid := [("unicode/utf8.acceptRanges", laid_unicode_utf8_acceptRanges), ("unicode/utf8.first", laid_unicode_utf8_first)] }
def TarSoleSaid : Prop := tarSoleRow.holds Tryd.pinned (OpenSpec.ofChange tarSoleSpec)

/-- ITS FALSE NEIGHBOUR: 'it returns false'. Refute it at one input. -/
def tarSoleWrong : ChangeSpec := { name := "tarSole", fn := fun _ => fun
  | [d] => { results := [.lit (.bool false)], args := [d] }
  | _ => none }
def TarSoleWrongFalsely : Prop := tarSoleRow.holds Tryd.pinned (OpenSpec.ofChange tarSoleWrong)

/-- 'pithlaw33.TarLists': WHATEVER THE INPUT: true; the input reads as it did. -/
def tarListsSpec : ChangeSpec := { name := "tarLists", fn := fun _ => fun
  | [d] => { results := [.lit (.bool true)], args := [d] }
  | _ => none }
def tarListsRow : OpenClaim := { program := "yteeepkimnpabiaadoor", sum := "df415c8608e7c42068f131c47a325922b9c9a086f0fe564024d478f9c51d2fde", func := "pith/pithlaw33.TarLists", spec := "tarLists", inPlace := ["internal/bytealg.IndexByteString", "internal/bytealg.IndexByte", "internal/bytealg.Index"], unfollowed := true, recurses := true, named := ["internal/bytealg.MaxLen", "unicode/utf8.first", "unicode/utf8.acceptRanges"], apart := false, laid := [("unicode/utf8.acceptRanges", laid_unicode_utf8_acceptRanges), ("unicode/utf8.first", laid_unicode_utf8_first)] }
def TarListsSaid : Prop := tarListsRow.holds Tryd.pinned (OpenSpec.ofChange tarListsSpec)

/-- ITS FALSE NEIGHBOUR: 'it returns false'. Refute it at one input. -/
def tarListsWrong : ChangeSpec := { name := "tarLists", fn := fun _ => fun
  | [d] => { results := [.lit (.bool false)], args := [d] }
  | _ => none }
def TarListsWrongFalsely : Prop := tarListsRow.holds Tryd.pinned (OpenSpec.ofChange tarListsWrong)

/- THE SECOND FORM. 'bulk': how many values and letters a reading holds, each counted each time it is reached (what is shared counts as often as it is met; a slice's spare places count too). A statement '..UptoSaid' is the law's where the arguments, and the package variables that the reading takes, are together of bulk at most 1048576: NARROWER than '..Said'. Prove '..Said' where nothing that the law and all that it calls make is longer than what came in: it says more and counts as full. Else prove '..UptoSaid'. A law counts once. -/
mutual
def uptoBulk {H : Type} : DataW H → Nat
  | .lit (.string bytes) => bytes.length + 1
  | .lit _ => 1
  | .nil => 1
  | .ptr d => uptoBulk d + 1
  | .slice elems spare => uptoBulkAll elems + uptoBulkAll spare + 1
  | .agg parts => uptoBulkAll parts + 1
  | .iface _ d => uptoBulk d + 1
  | .map entries => uptoBulkEntries entries + 1
  | .held _ => 1
def uptoBulkAll {H : Type} : List (DataW H) → Nat
  | [] => 0
  | d :: r => uptoBulk d + uptoBulkAll r
def uptoBulkEntries {H : Type} : List (Lit × DataW H) → Nat
  | [] => 0
  | x :: r => uptoBulkEntry x + uptoBulkEntries r
def uptoBulkEntry {H : Type} : Lit × DataW H → Nat
  | (.string bytes, d) => bytes.length + uptoBulk d + 1
  | (_, d) => uptoBulk d + 1
 end
def uptoSmall : (H : Type) → List (DataW H) → Bool := fun _ ds => decide (uptoBulkAll ds ≤ 1048576)
def OpenSpec.upto (s : _root_.Go.ChangeSpec) : _root_.Go.OpenSpec := { _root_.Go.OpenSpec.ofChange s with cond := some uptoSmall }

/-- 'pithlaw33.TarTold', WHERE WHAT IT READS IS OF BULK AT MOST 1048576: true; the input reads as it did. -/
def tarToldUptoRow : OpenClaim := { program := "yteeepkimnpabiaadoor", sum := "df415c8608e7c42068f131c47a325922b9c9a086f0fe564024d478f9c51d2fde", func := "pith/pithlaw33.TarTold", spec := "tarTold", inPlace := ["internal/bytealg.IndexByteString", "internal/bytealg.IndexByte", "internal/bytealg.Index"], unfollowed := true, recurses := true, named := ["internal/bytealg.MaxLen", "unicode/utf8.first", "unicode/utf8.acceptRanges"], apart := false, laid := [("unicode/utf8.acceptRanges", laid_unicode_utf8_acceptRanges), ("unicode/utf8.first", laid_unicode_utf8_first)], narrowed := true }
def TarToldUptoSaid : Prop := tarToldUptoRow.holds Tryd.pinned (OpenSpec.upto tarToldSpec)

/-- 'pithlaw33.TarExact', WHERE WHAT IT READS IS OF BULK AT MOST 1048576: true; the input reads as it did. -/
def tarExactUptoRow : OpenClaim := { program := "yteeepkimnpabiaadoor", sum := "df415c8608e7c42068f131c47a325922b9c9a086f0fe564024d478f9c51d2fde", func := "pith/pithlaw33.TarExact", spec := "tarExact", inPlace := ["internal/bytealg.IndexByteString", "internal/bytealg.IndexByte", "internal/bytealg.Index"], unfollowed := true, recurses := true, named := ["internal/bytealg.MaxLen", "unicode/utf8.first", "unicode/utf8.acceptRanges"], apart := false, laid := [("unicode/utf8.acceptRanges", laid_unicode_utf8_acceptRanges), ("unicode/utf8.first", laid_unicode_utf8_first)], narrowed := true }
def TarExactUptoSaid : Prop := tarExactUptoRow.holds Tryd.pinned (OpenSpec.upto tarExactSpec)

/-- 'pithlaw33.TarBack', WHERE WHAT IT READS IS OF BULK AT MOST 1048576: true; the input reads as it did. -/
def tarBackUptoRow : OpenClaim := { program := "yteeepkimnpabiaadoor", sum := "df415c8608e7c42068f131c47a325922b9c9a086f0fe564024d478f9c51d2fde", func := "pith/pithlaw33.TarBack", spec := "tarBack", inPlace := ["internal/bytealg.IndexByteString", "internal/bytealg.IndexByte", "internal/bytealg.Index"], unfollowed := true, recurses := true, named := ["unicode/utf8.first", "unicode/utf8.acceptRanges", "internal/bytealg.MaxLen"], apart := false, laid := [("unicode/utf8.acceptRanges", laid_unicode_utf8_acceptRanges), ("unicode/utf8.first", laid_unicode_utf8_first)], narrowed := true }
def TarBackUptoSaid : Prop := tarBackUptoRow.holds Tryd.pinned (OpenSpec.upto tarBackSpec)

/-- 'pithlaw33.TarSole', WHERE WHAT IT READS IS OF BULK AT MOST 1048576: true; the input reads as it did. -/
def tarSoleUptoRow : OpenClaim := { program := "yteeepkimnpabiaadoor", sum := "df415c8608e7c42068f131c47a325922b9c9a086f0fe564024d478f9c51d2fde", func := "pith/pithlaw33.TarSole", spec := "tarSole", inPlace := ["internal/bytealg.IndexByteString", "internal/bytealg.IndexByte", "internal/bytealg.Index"], unfollowed := true, recurses := true, named := ["unicode/utf8.first", "unicode/utf8.acceptRanges", "internal/bytealg.MaxLen"], apart := false, laid := [("unicode/utf8.acceptRanges", laid_unicode_utf8_acceptRanges), ("unicode/utf8.first", laid_unicode_utf8_first)], narrowed := true }
def TarSoleUptoSaid : Prop := tarSoleUptoRow.holds Tryd.pinned (OpenSpec.upto tarSoleSpec)

/-- 'pithlaw33.TarLists', WHERE WHAT IT READS IS OF BULK AT MOST 1048576: true; the input reads as it did. -/
def tarListsUptoRow : OpenClaim := { program := "yteeepkimnpabiaadoor", sum := "df415c8608e7c42068f131c47a325922b9c9a086f0fe564024d478f9c51d2fde", func := "pith/pithlaw33.TarLists", spec := "tarLists", inPlace := ["internal/bytealg.IndexByteString", "internal/bytealg.IndexByte", "internal/bytealg.Index"], unfollowed := true, recurses := true, named := ["internal/bytealg.MaxLen", "unicode/utf8.first", "unicode/utf8.acceptRanges"], apart := false, laid := [("unicode/utf8.acceptRanges", laid_unicode_utf8_acceptRanges), ("unicode/utf8.first", laid_unicode_utf8_first)], narrowed := true }
def TarListsUptoSaid : Prop := tarListsUptoRow.holds Tryd.pinned (OpenSpec.upto tarListsSpec)

end Rows
end Go.Proofs.YteeepkimnpabiaaDoor
