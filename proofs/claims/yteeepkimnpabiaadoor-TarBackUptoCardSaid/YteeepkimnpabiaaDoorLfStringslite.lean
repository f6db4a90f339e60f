/-
  Printed by a program of mine (lift.py): each function of the seat as a plain proposition over values and worlds; that the program meets it.
-/
import Derived.Test.YteeepkimnpabiaaDoorRows
import Derived.Test.YteeepkimnpabiaaDoorFacts
namespace Go.Proofs.YteeepkimnpabiaaDoor
open Go
set_option linter.unusedSimpArgs false
set_option linter.unnecessarySimpa false
set_option linter.unusedSectionVars false
set_option linter.unusedVariables false
set_option maxRecDepth 100000

/-! internal_stringslite_IndexByte: internal/stringslite.IndexByte; temporaries: 0:s 1:c 2:s 3:c -/
def internal_stringslite_IndexByte.H : Hints := { cut := fun  | _ => none, loop := fun  | _ => ([], 0), order := fun  | _ => [] }
def internal_stringslite_IndexByte.F [Pan] (x0 : Value) (x1 : Value) (w : World) (Q : Value → World → Prop) : Prop :=
 pN Tryd.prog (oCall 76 [x0, x1]) w fun x7 w1 =>
 Q x7 w1
noncomputable def internal_stringslite_IndexByte.c : Code := match Tryd.f70.body with | some c => c | none => .skip
theorem internal_stringslite_IndexByte.eq [Pan] (x0 : Value) (x1 : Value) (w : World) (Q : Value → World → Prop) : cw Tryd.prog internal_stringslite_IndexByte.H internal_stringslite_IndexByte.c (endQ Tryd.prog Tryd.f70.results.toList Q) (argsE [x0, x1]) w = internal_stringslite_IndexByte.F x0 x1 w Q := by kernel_rfl
theorem internal_stringslite_IndexByte.calls [Pan] {x0 : Value} {x1 : Value} {w : World} {Q : Value → World → Prop} (h : internal_stringslite_IndexByte.F x0 x1 w Q) : Calls Tryd.prog 70 #[x0, x1] w (retP Q) :=
  calls_of_cw (H := internal_stringslite_IndexByte.H) (c := internal_stringslite_IndexByte.c) (args := [x0, x1]) mixed Tryd.func70 (by kernel_rfl) (by kernel_rfl) (Nat.le_of_ble_eq_true (by kernel_rfl)) ((internal_stringslite_IndexByte.eq x0 x1 w Q).mpr h)

end Go.Proofs.YteeepkimnpabiaaDoor
