/-
  Printed by a program of mine (lift.py): each function of the seat as a plain proposition over values and worlds; that the program meets it.
-/
import Derived.Test.YtbgnnjfpiblkmaaDoorRows
import Derived.Test.YtbgnnjfpiblkmaaDoorFacts
namespace Go.Proofs.YtbgnnjfpiblkmaaDoor
open Go
set_option linter.unusedSimpArgs false
set_option linter.unnecessarySimpa false
set_option linter.unusedSectionVars false
set_option linter.unusedVariables false
set_option maxRecDepth 100000

/-! symbol_Apply: pith/symbol.Apply; temporaries: 0:w 1:s 2:y 3:w 4:s 5:y 9:next 10:e 11:b -/
def symbol_Apply.H : Hints := { cut := fun | 15 => some ([10, 11], 590295810358701460480) | _ => none, loop := fun  | _ => ([], 0), order := fun | 12 => [(0, 0), (1, 1), (2, 3), (3, 7), (4, 15), (5, 31), (6, 63), (7, 127), (8, 255), (9, 511), (10, 1023), (11, 2047), (12, 4095), (13, 8191)] | 17 => [(0, 0), (1, 1), (2, 3), (3, 7), (4, 15)] | _ => [] }
def symbol_Apply.F [Pan] (x0 : Value) (x1 : Value) (x2 : Value) (w : World) (Q : Value → World → Prop) : Prop :=
 pN Tryd.prog (oBox 60 x1) w fun x4 w1 =>
 pN Tryd.prog (oBox 34 x2) w1 fun x5 w2 =>
 pN Tryd.prog (oAlloc 60) w2 fun x7 w3 =>
 pN Tryd.prog (oLoad 60 x4) w3 fun x13 w4 =>
 pN Tryd.prog (oLoad 34 x5) w4 fun x14 w5 =>
 pN Tryd.prog (oCall 31 [x13, x14]) w5 fun x15 w6 =>
 pN Tryd.prog (oExt x15 0) w6 fun x16 w7 =>
 pN Tryd.prog (oExt x15 1) w7 fun x17 w8 =>
 pN Tryd.prog (oAlloc 60) w8 fun x9 w9 =>
 pN Tryd.prog (oStore 60 x9 x16) w9 fun _ w10 =>
 pN Tryd.prog (oBin .neq 28 (.tmp 18) (.const (.int .i64 0)) x17 (.int .i64 0)) w10 fun x19 w11 =>
 pIf x19
 (pN Tryd.prog (oBuild 60 []) w11 fun x20 w12 =>
 pN Tryd.prog (oStore 60 x7 x20) w12 fun _ w13 =>
 pL Tryd.prog (oRes 60 x7) w13 fun r7 =>
 Q (.tuple #[(.slice none 0 0), r7, x17]) w13)
 (∃ I15 : Value → Value → World → Prop,
 (pN Tryd.prog (oFld 34 x5 0) w11 fun x22 w14 =>
 pN Tryd.prog (oLoad 3 x22) w14 fun x23 w15 =>
 pN Tryd.prog (oBin .eql 3 (.tmp 23) (.const (.int .i64 1)) x23 (.int .i64 1)) w15 fun x25 w16 =>
 pIf x25
 (pN Tryd.prog (oFld 34 x5 1) w16 fun x26 w17 =>
 pN Tryd.prog (oLoad 5 x26) w17 fun x27 w18 =>
 pN Tryd.prog (oBs 38 1 [(0, x27)]) w18 fun x28 w19 =>
 pN Tryd.prog (oFld 34 x5 1) w19 fun x30 w20 =>
 pN Tryd.prog (oLoad 5 x30) w20 fun x31 w21 =>
 pN Tryd.prog (oBs 38 1 [(0, x31)]) w21 fun x32 w22 =>
 pN Tryd.prog (oCall 38 [x0, x32]) w22 fun _ w23 =>
 I15 x17 x28 w23)
 (pN Tryd.prog (oBin .eql 3 (.tmp 23) (.const (.int .i64 2)) x23 (.int .i64 2)) w16 fun x35 w24 =>
 pIf x35
 (pN Tryd.prog (oFld 34 x5 3) w24 fun x38 w25 =>
 pN Tryd.prog (oLoad 3 x38) w25 fun x39 w26 =>
 pN Tryd.prog (oFld 34 x5 2) w26 fun x40 w27 =>
 pN Tryd.prog (oLoad 3 x40) w27 fun x41 w28 =>
 pN Tryd.prog (oCall 39 [x0, x39, x41]) w28 fun x42 w29 =>
 pN Tryd.prog (oExt x42 0) w29 fun x43 w30 =>
 pN Tryd.prog (oExt x42 1) w30 fun x44 w31 =>
 I15 x44 x43 w31)
 (pN Tryd.prog (oBin .eql 3 (.tmp 23) (.const (.int .i64 3)) x23 (.int .i64 3)) w24 fun x46 w32 =>
 pIf x46
 (pDr w32 fun w33 =>
 pA Tryd.prog (oFld 34 x5 3) fun x49 =>
 pL Tryd.prog (oLoad 3 x49) w33 fun x50 =>
 pA Tryd.prog (oFld 60 x4 1) fun x51 =>
 pA Tryd.prog (oIdx 58 x51 x50) fun x52 =>
 pL Tryd.prog (oLoad 3 x52) w33 fun x53 =>
 pA Tryd.prog (oFld 34 x5 2) fun x54 =>
 pL Tryd.prog (oLoad 3 x54) w33 fun x55 =>
 pN Tryd.prog (oCall 39 [x0, x53, x55]) w33 fun x56 w34 =>
 (True) ∧ (pA Tryd.prog (oExt x56 0) fun x57 =>
 pA Tryd.prog (oExt x56 1) fun x58 =>
 I15 x58 x57 w34))
 (pN Tryd.prog (oBin .eql 3 (.tmp 23) (.const (.int .i64 4)) x23 (.int .i64 4)) w32 fun x60 w35 =>
 pIf x60
 (pN Tryd.prog (oFld 60 x4 1) w35 fun x63 w36 =>
 pN Tryd.prog (oIdx 58 x63 (.int .i64 0)) w36 fun x64 w37 =>
 pN Tryd.prog (oLoad 3 x64) w37 fun x65 w38 =>
 pN Tryd.prog (oCall 39 [x0, x65, (.int .i64 1)]) w38 fun x66 w39 =>
 pN Tryd.prog (oExt x66 0) w39 fun x67 w40 =>
 pN Tryd.prog (oExt x66 1) w40 fun x68 w41 =>
 I15 x68 x67 w41)
 (I15 x17 (.slice none 0 0) w35))))) ∧
 ∀ (_j15 : Env) (e10c15 : Value) (b11c15 : Value) (w42 : World), I15 e10c15 b11c15 w42 →
 pN Tryd.prog (oBin .neq 28 (.tmp 69) (.const (.int .i64 0)) e10c15 (.int .i64 0)) w42 fun x70 w43 =>
 pIf x70
 (pN Tryd.prog (oBuild 60 []) w43 fun x71 w44 =>
 pN Tryd.prog (oStore 60 x7 x71) w44 fun _ w45 =>
 pL Tryd.prog (oRes 60 x7) w45 fun r7 =>
 Q (.tuple #[(.slice none 0 0), r7, e10c15]) w45)
 (pDr w43 fun w46 =>
 pL Tryd.prog (oLoad 60 x9) w46 fun x74 =>
 pN Tryd.prog (oStore 60 x7 x74) w46 fun _ w47 =>
 (True) ∧ (pL Tryd.prog (oRes 60 x7) w47 fun r7 =>
 Q (.tuple #[b11c15, r7, (.int .i64 0)]) w47)))
noncomputable def symbol_Apply.c : Code := match Tryd.f22.body with | some c => c | none => .skip
theorem symbol_Apply.eq [Pan] (x0 : Value) (x1 : Value) (x2 : Value) (w : World) (Q : Value → World → Prop) : cw Tryd.prog symbol_Apply.H symbol_Apply.c (endQ Tryd.prog Tryd.f22.results.toList Q) (argsE [x0, x1, x2]) w = symbol_Apply.F x0 x1 x2 w Q := by kernel_rfl
theorem symbol_Apply.calls [Pan] {x0 : Value} {x1 : Value} {x2 : Value} {w : World} {Q : Value → World → Prop} (h : symbol_Apply.F x0 x1 x2 w Q) : Calls Tryd.prog 22 #[x0, x1, x2] w (retP Q) :=
  calls_of_cw (H := symbol_Apply.H) (c := symbol_Apply.c) (args := [x0, x1, x2]) mixed Tryd.func22 (by kernel_rfl) (by kernel_rfl) (Nat.le_of_ble_eq_true (by kernel_rfl)) ((symbol_Apply.eq x0 x1 x2 w Q).mpr h)

end Go.Proofs.YtbgnnjfpiblkmaaDoor
