/-
  Printed by a program of mine (lift.py): each function of the seat as a plain proposition over values and worlds; that the program meets it.
-/
import Derived.Test.YtbgnnjfpiblkmaaDoorRows
import Derived.Test.YtbgnnjfpiblkmaaDoorFacts
namespace Go.Proofs.YtbgnnjfpiblkmaaDoor
open Go
set_option linter.unusedSimpArgs false
set_option linter.unnecessarySimpa false
set_option linter.unusedSectionVars false
set_option linter.unusedVariables false
set_option maxRecDepth 100000

/-! math_bits_Len: math/bits.Len; temporaries: 0:x 1:x -/
def math_bits_Len.H : Hints := { cut := fun  | _ => none, loop := fun  | _ => ([], 0), order := fun  | _ => [] }
def math_bits_Len.F [Pan] (x0 : Value) (w : World) (Q : Value → World → Prop) : Prop :=
 pIf (.bool false)
 (pN Tryd.prog (oConv 110 78 x0) w fun x4 w1 =>
 pN Tryd.prog (oCall 58 [x4]) w1 fun x5 w2 =>
 Q x5 w2)
 (pN Tryd.prog (oCall 59 [x0]) w fun x7 w3 =>
 Q x7 w3)
noncomputable def math_bits_Len.c : Code := match Tryd.f57.body with | some c => c | none => .skip
theorem math_bits_Len.eq [Pan] (x0 : Value) (w : World) (Q : Value → World → Prop) : cw Tryd.prog math_bits_Len.H math_bits_Len.c (endQ Tryd.prog Tryd.f57.results.toList Q) (argsE [x0]) w = math_bits_Len.F x0 w Q := by kernel_rfl
theorem math_bits_Len.calls [Pan] {x0 : Value} {w : World} {Q : Value → World → Prop} (h : math_bits_Len.F x0 w Q) : Calls Tryd.prog 57 #[x0] w (retP Q) :=
  calls_of_cw (H := math_bits_Len.H) (c := math_bits_Len.c) (args := [x0]) mixed Tryd.func57 (by kernel_rfl) (by kernel_rfl) (Nat.le_of_ble_eq_true (by kernel_rfl)) ((math_bits_Len.eq x0 w Q).mpr h)

/-! math_bits_Len32: math/bits.Len32; temporaries: 0:x 1:x 2:n -/
def math_bits_Len32.H : Hints := { cut := fun | 4 => some ([0, 2], 125) | 7 => some ([0, 2], 8069) | _ => none, loop := fun  | _ => ([], 0), order := fun  | _ => [] }
def math_bits_Len32.F [Pan] (x0 : Value) (w : World) (Q : Value → World → Prop) : Prop :=
 ∃ I4 : Value → Value → World → Prop,
 (pN Tryd.prog (oBin .geq 78 (.tmp 3) (.const (.int .u32 65536)) x0 (.int .u32 65536)) w fun x4 w1 =>
 pIf x4
 (pN Tryd.prog (oBin .shr 78 (.tmp 5) (.const (.int .u64 16)) x0 (.int .u64 16)) w1 fun x6 w2 =>
 I4 x6 (.int .i64 16) w2)
 (I4 x0 (.int .i64 0) w1)) ∧
 ∀ (_j4 : Env) (x0c4 : Value) (n2c4 : Value) (w3 : World), I4 x0c4 n2c4 w3 →
 ∃ I7 : Value → Value → World → Prop,
 (pN Tryd.prog (oBin .geq 78 (.tmp 7) (.const (.int .u32 256)) x0c4 (.int .u32 256)) w3 fun x8 w4 =>
 pIf x8
 (pN Tryd.prog (oBin .shr 78 (.tmp 9) (.const (.int .u64 8)) x0c4 (.int .u64 8)) w4 fun x10 w5 =>
 pN Tryd.prog (oBin .add 3 (.tmp 11) (.const (.int .i64 8)) n2c4 (.int .i64 8)) w5 fun x12 w6 =>
 I7 x10 x12 w6)
 (I7 x0c4 n2c4 w4)) ∧
 ∀ (_j7 : Env) (x0c7 : Value) (n2c7 : Value) (w7 : World), I7 x0c7 n2c7 w7 →
 pN Tryd.prog (oConv 78 5 x0c7) w7 fun x15 w8 =>
 pN Tryd.prog (oIndex 9 (.string ⟨#[0, 1, 2, 2, 3, 3, 3, 3, 4, 4, 4, 4, 4, 4, 4, 4, 5, 5, 5, 5, 5, 5, 5, 5, 5, 5, 5, 5, 5, 5, 5, 5, 6, 6, 6, 6, 6, 6, 6, 6, 6, 6, 6, 6, 6, 6, 6, 6, 6, 6, 6, 6, 6, 6, 6, 6, 6, 6, 6, 6, 6, 6, 6, 6, 7, 7, 7, 7, 7, 7, 7, 7, 7, 7, 7, 7, 7, 7, 7, 7, 7, 7, 7, 7, 7, 7, 7, 7, 7, 7, 7, 7, 7, 7, 7, 7, 7, 7, 7, 7, 7, 7, 7, 7, 7, 7, 7, 7, 7, 7, 7, 7, 7, 7, 7, 7, 7, 7, 7, 7, 7, 7, 7, 7, 7, 7, 7, 7, 8, 8, 8, 8, 8, 8, 8, 8, 8, 8, 8, 8, 8, 8, 8, 8, 8, 8, 8, 8, 8, 8, 8, 8, 8, 8, 8, 8, 8, 8, 8, 8, 8, 8, 8, 8, 8, 8, 8, 8, 8, 8, 8, 8, 8, 8, 8, 8, 8, 8, 8, 8, 8, 8, 8, 8, 8, 8, 8, 8, 8, 8, 8, 8, 8, 8, 8, 8, 8, 8, 8, 8, 8, 8, 8, 8, 8, 8, 8, 8, 8, 8, 8, 8, 8, 8, 8, 8, 8, 8, 8, 8, 8, 8, 8, 8, 8, 8, 8, 8, 8, 8, 8, 8, 8, 8, 8, 8, 8, 8, 8, 8, 8, 8, 8, 8, 8, 8, 8, 8, 8, 8, 8, 8, 8, 8, 8, 8]⟩) x15) w8 fun x16 w9 =>
 pN Tryd.prog (oConv 5 3 x16) w9 fun x17 w10 =>
 pN Tryd.prog (oBin .add 3 (.tmp 13) (.tmp 17) n2c7 x17) w10 fun x18 w11 =>
 Q x18 w11
noncomputable def math_bits_Len32.c : Code := match Tryd.f58.body with | some c => c | none => .skip
theorem math_bits_Len32.eq [Pan] (x0 : Value) (w : World) (Q : Value → World → Prop) : cw Tryd.prog math_bits_Len32.H math_bits_Len32.c (endQ Tryd.prog Tryd.f58.results.toList Q) (argsE [x0]) w = math_bits_Len32.F x0 w Q := by kernel_rfl
theorem math_bits_Len32.calls [Pan] {x0 : Value} {w : World} {Q : Value → World → Prop} (h : math_bits_Len32.F x0 w Q) : Calls Tryd.prog 58 #[x0] w (retP Q) :=
  calls_of_cw (H := math_bits_Len32.H) (c := math_bits_Len32.c) (args := [x0]) mixed Tryd.func58 (by kernel_rfl) (by kernel_rfl) (Nat.le_of_ble_eq_true (by kernel_rfl)) ((math_bits_Len32.eq x0 w Q).mpr h)

/-! math_bits_Len64: math/bits.Len64; temporaries: 0:x 1:x 2:n -/
def math_bits_Len64.H : Hints := { cut := fun | 4 => some ([0, 2], 125) | 7 => some ([0, 2], 8069) | 10 => some ([0, 2], 516101) | _ => none, loop := fun  | _ => ([], 0), order := fun  | _ => [] }
def math_bits_Len64.F [Pan] (x0 : Value) (w : World) (Q : Value → World → Prop) : Prop :=
 ∃ I4 : Value → Value → World → Prop,
 (pN Tryd.prog (oBin .geq 79 (.tmp 3) (.const (.int .u64 4294967296)) x0 (.int .u64 4294967296)) w fun x4 w1 =>
 pIf x4
 (pN Tryd.prog (oBin .shr 79 (.tmp 5) (.const (.int .u64 32)) x0 (.int .u64 32)) w1 fun x6 w2 =>
 I4 x6 (.int .i64 32) w2)
 (I4 x0 (.int .i64 0) w1)) ∧
 ∀ (_j4 : Env) (x0c4 : Value) (n2c4 : Value) (w3 : World), I4 x0c4 n2c4 w3 →
 ∃ I7 : Value → Value → World → Prop,
 (pN Tryd.prog (oBin .geq 79 (.tmp 7) (.const (.int .u64 65536)) x0c4 (.int .u64 65536)) w3 fun x8 w4 =>
 pIf x8
 (pN Tryd.prog (oBin .shr 79 (.tmp 9) (.const (.int .u64 16)) x0c4 (.int .u64 16)) w4 fun x10 w5 =>
 pN Tryd.prog (oBin .add 3 (.tmp 11) (.const (.int .i64 16)) n2c4 (.int .i64 16)) w5 fun x12 w6 =>
 I7 x10 x12 w6)
 (I7 x0c4 n2c4 w4)) ∧
 ∀ (_j7 : Env) (x0c7 : Value) (n2c7 : Value) (w7 : World), I7 x0c7 n2c7 w7 →
 ∃ I10 : Value → Value → World → Prop,
 (pN Tryd.prog (oBin .geq 79 (.tmp 13) (.const (.int .u64 256)) x0c7 (.int .u64 256)) w7 fun x14 w8 =>
 pIf x14
 (pN Tryd.prog (oBin .shr 79 (.tmp 15) (.const (.int .u64 8)) x0c7 (.int .u64 8)) w8 fun x16 w9 =>
 pN Tryd.prog (oBin .add 3 (.tmp 17) (.const (.int .i64 8)) n2c7 (.int .i64 8)) w9 fun x18 w10 =>
 I10 x16 x18 w10)
 (I10 x0c7 n2c7 w8)) ∧
 ∀ (_j10 : Env) (x0c10 : Value) (n2c10 : Value) (w11 : World), I10 x0c10 n2c10 w11 →
 pN Tryd.prog (oConv 79 5 x0c10) w11 fun x21 w12 =>
 pN Tryd.prog (oIndex 9 (.string ⟨#[0, 1, 2, 2, 3, 3, 3, 3, 4, 4, 4, 4, 4, 4, 4, 4, 5, 5, 5, 5, 5, 5, 5, 5, 5, 5, 5, 5, 5, 5, 5, 5, 6, 6, 6, 6, 6, 6, 6, 6, 6, 6, 6, 6, 6, 6, 6, 6, 6, 6, 6, 6, 6, 6, 6, 6, 6, 6, 6, 6, 6, 6, 6, 6, 7, 7, 7, 7, 7, 7, 7, 7, 7, 7, 7, 7, 7, 7, 7, 7, 7, 7, 7, 7, 7, 7, 7, 7, 7, 7, 7, 7, 7, 7, 7, 7, 7, 7, 7, 7, 7, 7, 7, 7, 7, 7, 7, 7, 7, 7, 7, 7, 7, 7, 7, 7, 7, 7, 7, 7, 7, 7, 7, 7, 7, 7, 7, 7, 8, 8, 8, 8, 8, 8, 8, 8, 8, 8, 8, 8, 8, 8, 8, 8, 8, 8, 8, 8, 8, 8, 8, 8, 8, 8, 8, 8, 8, 8, 8, 8, 8, 8, 8, 8, 8, 8, 8, 8, 8, 8, 8, 8, 8, 8, 8, 8, 8, 8, 8, 8, 8, 8, 8, 8, 8, 8, 8, 8, 8, 8, 8, 8, 8, 8, 8, 8, 8, 8, 8, 8, 8, 8, 8, 8, 8, 8, 8, 8, 8, 8, 8, 8, 8, 8, 8, 8, 8, 8, 8, 8, 8, 8, 8, 8, 8, 8, 8, 8, 8, 8, 8, 8, 8, 8, 8, 8, 8, 8, 8, 8, 8, 8, 8, 8, 8, 8, 8, 8, 8, 8, 8, 8, 8, 8, 8, 8]⟩) x21) w12 fun x22 w13 =>
 pN Tryd.prog (oConv 5 3 x22) w13 fun x23 w14 =>
 pN Tryd.prog (oBin .add 3 (.tmp 19) (.tmp 23) n2c10 x23) w14 fun x24 w15 =>
 Q x24 w15
noncomputable def math_bits_Len64.c : Code := match Tryd.f59.body with | some c => c | none => .skip
theorem math_bits_Len64.eq [Pan] (x0 : Value) (w : World) (Q : Value → World → Prop) : cw Tryd.prog math_bits_Len64.H math_bits_Len64.c (endQ Tryd.prog Tryd.f59.results.toList Q) (argsE [x0]) w = math_bits_Len64.F x0 w Q := by kernel_rfl
theorem math_bits_Len64.calls [Pan] {x0 : Value} {w : World} {Q : Value → World → Prop} (h : math_bits_Len64.F x0 w Q) : Calls Tryd.prog 59 #[x0] w (retP Q) :=
  calls_of_cw (H := math_bits_Len64.H) (c := math_bits_Len64.c) (args := [x0]) mixed Tryd.func59 (by kernel_rfl) (by kernel_rfl) (Nat.le_of_ble_eq_true (by kernel_rfl)) ((math_bits_Len64.eq x0 w Q).mpr h)

end Go.Proofs.YtbgnnjfpiblkmaaDoor
