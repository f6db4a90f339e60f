/-
  Printed by a program of mine (lift.py): each function of the seat as a plain proposition over values and worlds; that the program meets it.
-/
import Derived.Test.YtbgnnjfpiblkmaaDoorRows
import Derived.Test.YtbgnnjfpiblkmaaDoorFacts
namespace Go.Proofs.YtbgnnjfpiblkmaaDoor
open Go
set_option linter.unusedSimpArgs false
set_option linter.unnecessarySimpa false
set_option linter.unusedSectionVars false
set_option linter.unusedVariables false
set_option maxRecDepth 100000

/-! tree_PutBack: pith/tree.PutBack; temporaries: 0:e 1:s 2:at 3:n 4:v 5:e 6:s 7:at 8:n 9:v -/
def tree_PutBack.H : Hints := { cut := fun  | _ => none, loop := fun  | _ => ([], 0), order := fun  | _ => [] }
def tree_PutBack.F [Pan] (x0 : Value) (x1 : Value) (x2 : Value) (x3 : Value) (x4 : Value) (w : World) (Q : Value → World → Prop) : Prop :=
 pN Tryd.prog (oCall 83 [x0, x1, x2, x3, x4, (.bool true)]) w fun x16 w1 =>
 Q x16 w1
noncomputable def tree_PutBack.c : Code := match Tryd.f79.body with | some c => c | none => .skip
theorem tree_PutBack.eq [Pan] (x0 : Value) (x1 : Value) (x2 : Value) (x3 : Value) (x4 : Value) (w : World) (Q : Value → World → Prop) : cw Tryd.prog tree_PutBack.H tree_PutBack.c (endQ Tryd.prog Tryd.f79.results.toList Q) (argsE [x0, x1, x2, x3, x4]) w = tree_PutBack.F x0 x1 x2 x3 x4 w Q := by kernel_rfl
theorem tree_PutBack.calls [Pan] {x0 : Value} {x1 : Value} {x2 : Value} {x3 : Value} {x4 : Value} {w : World} {Q : Value → World → Prop} (h : tree_PutBack.F x0 x1 x2 x3 x4 w Q) : Calls Tryd.prog 79 #[x0, x1, x2, x3, x4] w (retP Q) :=
  calls_of_cw (H := tree_PutBack.H) (c := tree_PutBack.c) (args := [x0, x1, x2, x3, x4]) mixed Tryd.func79 (by kernel_rfl) (by kernel_rfl) (Nat.le_of_ble_eq_true (by kernel_rfl)) ((tree_PutBack.eq x0 x1 x2 x3 x4 w Q).mpr h)

/-! tree_Put: pith/tree.Put; temporaries: 0:e 1:s 2:at 3:n 4:v 5:e 6:s 7:at 8:n 9:v -/
def tree_Put.H : Hints := { cut := fun  | _ => none, loop := fun  | _ => ([], 0), order := fun  | _ => [] }
def tree_Put.F [Pan] (x0 : Value) (x1 : Value) (x2 : Value) (x3 : Value) (x4 : Value) (w : World) (Q : Value → World → Prop) : Prop :=
 pN Tryd.prog (oCall 83 [x0, x1, x2, x3, x4, (.bool false)]) w fun x16 w1 =>
 Q x16 w1
noncomputable def tree_Put.c : Code := match Tryd.f82.body with | some c => c | none => .skip
theorem tree_Put.eq [Pan] (x0 : Value) (x1 : Value) (x2 : Value) (x3 : Value) (x4 : Value) (w : World) (Q : Value → World → Prop) : cw Tryd.prog tree_Put.H tree_Put.c (endQ Tryd.prog Tryd.f82.results.toList Q) (argsE [x0, x1, x2, x3, x4]) w = tree_Put.F x0 x1 x2 x3 x4 w Q := by kernel_rfl
theorem tree_Put.calls [Pan] {x0 : Value} {x1 : Value} {x2 : Value} {x3 : Value} {x4 : Value} {w : World} {Q : Value → World → Prop} (h : tree_Put.F x0 x1 x2 x3 x4 w Q) : Calls Tryd.prog 82 #[x0, x1, x2, x3, x4] w (retP Q) :=
  calls_of_cw (H := tree_Put.H) (c := tree_Put.c) (args := [x0, x1, x2, x3, x4]) mixed Tryd.func82 (by kernel_rfl) (by kernel_rfl) (Nat.le_of_ble_eq_true (by kernel_rfl)) ((tree_Put.eq x0 x1 x2 x3 x4 w Q).mpr h)

/-! tree_put: pith/tree.put; temporaries: 0:e 1:s 2:at 3:n 4:v 5:back 6:e 7:s 8:at 9:n 10:v 11:back -/
def tree_put.H : Hints := { cut := fun  | _ => none, loop := fun  | _ => ([], 0), order := fun  | _ => [] }
def tree_put.F [Pan] (x0 : Value) (x1 : Value) (x2 : Value) (x3 : Value) (x4 : Value) (x5 : Value) (w : World) (Q : Value → World → Prop) : Prop :=
 pN Tryd.prog (oBox 51 x0) w fun x6 w1 =>
 pN Tryd.prog (oBox 63 x1) w1 fun x7 w2 =>
 pN Tryd.prog (oBox 3 x3) w2 fun x9 w3 =>
 pN Tryd.prog (oBox 3 x4) w3 fun x10 w4 =>
 pN Tryd.prog (oBox 4 x5) w4 fun x11 w5 =>
 pN Tryd.prog (oLoad 63 x7) w5 fun x13 w6 =>
 pN Tryd.prog (oLoad 3 x9) w6 fun x15 w7 =>
 pN Tryd.prog (oCall 88 [x13, x2, x15]) w7 fun x16 w8 =>
 pN Tryd.prog (oUn .not x16) w8 fun x17 w9 =>
 pGd (gB x17 false) (pN Tryd.prog (oLoad 3 x10) w9) w9 fun x19 w10 =>
 pGd (gB x17 false) (pN Tryd.prog (oLoad 3 x9) w10) w10 fun x20 w11 =>
 pGd (gB x17 false) (pN Tryd.prog (oCall 89 [x19, x20]) w11) w11 fun x21 w12 =>
 pGd (gB x17 false) (pN Tryd.prog (oUn .not x21) w12) w12 fun x22 w13 =>
 pN Tryd.prog (oPick x17 (.bool true) x22) w13 fun x23 w14 =>
 pIf x23
 (Q (.int .i64 7) w14)
 (pN Tryd.prog (oLoad 3 x9) w14 fun x25 w15 =>
 pN Tryd.prog (oFn (.func 91) [] [x10, x11, x9, x6, x7]) w15 fun x26 w16 =>
 pN Tryd.prog (oCall 90 [x2, x25, x26]) w16 fun x27 w17 =>
 Q x27 w17)
noncomputable def tree_put.c : Code := match Tryd.f83.body with | some c => c | none => .skip
theorem tree_put.eq [Pan] (x0 : Value) (x1 : Value) (x2 : Value) (x3 : Value) (x4 : Value) (x5 : Value) (w : World) (Q : Value → World → Prop) : cw Tryd.prog tree_put.H tree_put.c (endQ Tryd.prog Tryd.f83.results.toList Q) (argsE [x0, x1, x2, x3, x4, x5]) w = tree_put.F x0 x1 x2 x3 x4 x5 w Q := by kernel_rfl
theorem tree_put.calls [Pan] {x0 : Value} {x1 : Value} {x2 : Value} {x3 : Value} {x4 : Value} {x5 : Value} {w : World} {Q : Value → World → Prop} (h : tree_put.F x0 x1 x2 x3 x4 x5 w Q) : Calls Tryd.prog 83 #[x0, x1, x2, x3, x4, x5] w (retP Q) :=
  calls_of_cw (H := tree_put.H) (c := tree_put.c) (args := [x0, x1, x2, x3, x4, x5]) mixed Tryd.func83 (by kernel_rfl) (by kernel_rfl) (Nat.le_of_ble_eq_true (by kernel_rfl)) ((tree_put.eq x0 x1 x2 x3 x4 x5 w Q).mpr h)

/-! tree_there: pith/tree.there; temporaries: 0:s 1:at 2:n 3:s 4:at 5:n -/
def tree_there.H : Hints := { cut := fun  | _ => none, loop := fun  | _ => ([], 0), order := fun | 1 => [(0, 0), (1, 1), (2, 3), (3, 7), (4, 15), (5, 31), (6, 63), (7, 127), (8, 255), (9, 511), (10, 1023), (11, 2047), (12, 4095), (13, 8191), (14, 16383), (15, 32767), (16, 65535), (17, 131071), (18, 262143), (19, 524287), (21, 1048575), (20, 3145727), (22, 4194303), (23, 8388607), (24, 16777215), (25, 33554431)] | _ => [] }
def tree_there.F [Pan] (x0 : Value) (x1 : Value) (x2 : Value) (w : World) (Q : Value → World → Prop) : Prop :=
 pDr w fun w1 =>
 pA Tryd.prog (oBin .geq 3 (.tmp 7) (.const (.int .i64 0)) x2 (.int .i64 0)) fun x8 =>
 gA (gB x8 true) (pA Tryd.prog (oMv x2)) fun x10 =>
 gA (gB x8 true) (pA Tryd.prog (oBin .leq 3 (.tmp 10) (.const (.int .i64 16)) x10 (.int .i64 16))) fun x11 =>
 pA Tryd.prog (oPick x8 x11 (.bool false)) fun x12 =>
 gA (gB x12 true) (pA Tryd.prog (oMv x1)) fun x14 =>
 gA (gB x12 true) (pA Tryd.prog (oBin .geq 3 (.tmp 14) (.const (.int .i64 0)) x14 (.int .i64 0))) fun x15 =>
 pA Tryd.prog (oPick x12 x15 (.bool false)) fun x16 =>
 gA (gB x16 true) (pA Tryd.prog (oMv x1)) fun x18 =>
 gA (gB x16 true) (pA Tryd.prog (oMv x0)) fun x19 =>
 pGd (gB x16 true) (pN Tryd.prog (oCall 96 [x19]) w1) w1 fun x20 w2 =>
 (True) ∧ (gA (gB x16 true) (pA Tryd.prog (oBin .leq 3 (.tmp 18) (.tmp 20) x18 x20)) fun x21 =>
 pA Tryd.prog (oPick x16 x21 (.bool false)) fun x22 =>
 gA (gB x22 true) (pA Tryd.prog (oMv x2)) fun x24 =>
 gA (gB x22 true) (pA Tryd.prog (oBin .shl 3 (.const (.int .i64 1)) (.tmp 24) (.int .i64 1) x24)) fun x25 =>
 gA (gB x22 true) (pA Tryd.prog (oMv x0)) fun x26 =>
 gA (gB x22 true) (pA Tryd.prog (oMv x1)) fun x28 =>
 pGd (gB x22 true) (pN Tryd.prog (oCall 96 [x26]) w2) w2 fun x27 w3 =>
 (True) ∧ (gA (gB x22 true) (pA Tryd.prog (oBin .sub 3 (.tmp 27) (.tmp 28) x27 x28)) fun x29 =>
 gA (gB x22 true) (pA Tryd.prog (oBin .leq 3 (.tmp 25) (.tmp 29) x25 x29)) fun x30 =>
 pA Tryd.prog (oPick x22 x30 (.bool false)) fun x31 =>
 Q x31 w3))
noncomputable def tree_there.c : Code := match Tryd.f88.body with | some c => c | none => .skip
theorem tree_there.eq [Pan] (x0 : Value) (x1 : Value) (x2 : Value) (w : World) (Q : Value → World → Prop) : cw Tryd.prog tree_there.H tree_there.c (endQ Tryd.prog Tryd.f88.results.toList Q) (argsE [x0, x1, x2]) w = tree_there.F x0 x1 x2 w Q := by kernel_rfl
theorem tree_there.calls [Pan] {x0 : Value} {x1 : Value} {x2 : Value} {w : World} {Q : Value → World → Prop} (h : tree_there.F x0 x1 x2 w Q) : Calls Tryd.prog 88 #[x0, x1, x2] w (retP Q) :=
  calls_of_cw (H := tree_there.H) (c := tree_there.c) (args := [x0, x1, x2]) mixed Tryd.func88 (by kernel_rfl) (by kernel_rfl) (Nat.le_of_ble_eq_true (by kernel_rfl)) ((tree_there.eq x0 x1 x2 w Q).mpr h)

/-! tree_holds: pith/tree.holds; temporaries: 0:v 1:n 2:v 3:n -/
def tree_holds.H : Hints := { cut := fun  | _ => none, loop := fun  | _ => ([], 0), order := fun  | _ => [] }
def tree_holds.F [Pan] (x0 : Value) (x1 : Value) (w : World) (Q : Value → World → Prop) : Prop :=
 pN Tryd.prog (oBin .geq 3 (.tmp 5) (.const (.int .i64 0)) x0 (.int .i64 0)) w fun x6 w1 =>
 pGd (gB x6 true) (pN Tryd.prog (oMv x0) w1) w1 fun x8 w2 =>
 pGd (gB x6 true) (pN Tryd.prog (oMv x1) w2) w2 fun x9 w3 =>
 pGd (gB x6 true) (pN Tryd.prog (oBin .shl 3 (.const (.int .i64 1)) (.tmp 9) (.int .i64 1) x9) w3) w3 fun x10 w4 =>
 pGd (gB x6 true) (pN Tryd.prog (oBin .lss 3 (.tmp 8) (.tmp 10) x8 x10) w4) w4 fun x11 w5 =>
 pN Tryd.prog (oPick x6 x11 (.bool false)) w5 fun x12 w6 =>
 Q x12 w6
noncomputable def tree_holds.c : Code := match Tryd.f89.body with | some c => c | none => .skip
theorem tree_holds.eq [Pan] (x0 : Value) (x1 : Value) (w : World) (Q : Value → World → Prop) : cw Tryd.prog tree_holds.H tree_holds.c (endQ Tryd.prog Tryd.f89.results.toList Q) (argsE [x0, x1]) w = tree_holds.F x0 x1 w Q := by kernel_rfl
theorem tree_holds.calls [Pan] {x0 : Value} {x1 : Value} {w : World} {Q : Value → World → Prop} (h : tree_holds.F x0 x1 w Q) : Calls Tryd.prog 89 #[x0, x1] w (retP Q) :=
  calls_of_cw (H := tree_holds.H) (c := tree_holds.c) (args := [x0, x1]) mixed Tryd.func89 (by kernel_rfl) (by kernel_rfl) (Nat.le_of_ble_eq_true (by kernel_rfl)) ((tree_holds.eq x0 x1 w Q).mpr h)

/-! tree_down: pith/tree.down; temporaries: 0:at 1:n 2:do 3:at 4:n 5:do 7:m 8:k 9:bit 10:e -/
def tree_down.H : Hints := { cut := fun  | _ => none, loop := fun | 3 => ([7, 12], 4294965184) | _ => ([], 0), order := fun  | _ => [] }
def tree_down.F [Pan] (x0 : Value) (x1 : Value) (x2 : Value) (w : World) (Q : Value → World → Prop) : Prop :=
 ∃ (L3 : Value → Value → World → Prop) (m3 : Value → Value → World → Nat),
 L3 (.int .i64 1) (.int .i64 0) w ∧
 ∀ (_k3 : Env) (m7l3 : Value) (v12l3 : Value) (w1 : World), L3 m7l3 v12l3 w1 →
 pN Tryd.prog (oBin .lss 3 (.tmp 12) (.tmp 11) v12l3 x1) w1 fun x13 w2 =>
 pIf x13
 (pN Tryd.prog (oBin .add 3 (.tmp 17) (.tmp 18) x0 m7l3) w2 fun x19 w3 =>
 pN Tryd.prog (oCallV x2 [x19, v12l3]) w3 fun x21 w4 =>
 pN Tryd.prog (oExt x21 0) w4 fun x22 w5 =>
 pN Tryd.prog (oExt x21 1) w5 fun x23 w6 =>
 pN Tryd.prog (oBin .neq 28 (.tmp 24) (.const (.int .i64 0)) x23 (.int .i64 0)) w6 fun x25 w7 =>
 pIf x25
 (Q x23 w7)
 (pN Tryd.prog (oBin .mul 3 (.const (.int .i64 2)) (.tmp 27) (.int .i64 2) m7l3) w7 fun x28 w8 =>
 pN Tryd.prog (oBin .add 3 (.tmp 28) (.tmp 29) x28 x22) w8 fun x30 w9 =>
 pN Tryd.prog (oBin .add 3 (.tmp 12) (.const (.int .i64 1)) v12l3 (.int .i64 1)) w9 fun x31 w10 =>
 (L3 x30 x31 w10 ∧ m3 x30 x31 w10 < m3 m7l3 v12l3 w1)))
 (Q (.int .i64 0) w2)
noncomputable def tree_down.c : Code := match Tryd.f90.body with | some c => c | none => .skip
theorem tree_down.eq [Pan] (x0 : Value) (x1 : Value) (x2 : Value) (w : World) (Q : Value → World → Prop) : cw Tryd.prog tree_down.H tree_down.c (endQ Tryd.prog Tryd.f90.results.toList Q) (argsE [x0, x1, x2]) w = tree_down.F x0 x1 x2 w Q := by kernel_rfl
theorem tree_down.calls [Pan] {x0 : Value} {x1 : Value} {x2 : Value} {w : World} {Q : Value → World → Prop} (h : tree_down.F x0 x1 x2 w Q) : Calls Tryd.prog 90 #[x0, x1, x2] w (retP Q) :=
  calls_of_cw (H := tree_down.H) (c := tree_down.c) (args := [x0, x1, x2]) mixed Tryd.func90 (by kernel_rfl) (by kernel_rfl) (Nat.le_of_ble_eq_true (by kernel_rfl)) ((tree_down.eq x0 x1 x2 w Q).mpr h)

/-! tree_put_c1: pith/tree.put$1; temporaries: 0:place 1:k 7:place 8:k 11:bit -/
def tree_put_c1.H : Hints := { cut := fun  | _ => none, loop := fun  | _ => ([], 0), order := fun | 1 => [(0, 0), (1, 1), (2, 3), (3, 7), (4, 15), (5, 31), (6, 63), (7, 127)] | _ => [] }
def tree_put_c1.F [Pan] (x0 : Value) (x1 : Value) (x2 : Value) (x3 : Value) (x4 : Value) (x5 : Value) (x6 : Value) (w : World) (Q : Value → World → Prop) : Prop :=
 pDr w fun w1 =>
 pL Tryd.prog (oLoad 3 x2) w1 fun x12 =>
 pL Tryd.prog (oLoad 4 x3) w1 fun x13 =>
 pL Tryd.prog (oLoad 3 x4) w1 fun x14 =>
 pN Tryd.prog (oCall 92 [x13, x14, x1]) w1 fun x16 w2 =>
 ((Sem.run Tryd.prog (oLoad 3 x2) w2 = .ok (.value x12) w2) ∧ True) ∧ (pA Tryd.prog (oBin .shr 3 (.tmp 12) (.tmp 16) x12 x16) fun x17 =>
 pA Tryd.prog (oBin .and 3 (.tmp 17) (.const (.int .i64 1)) x17 (.int .i64 1)) fun x18 =>
 pN Tryd.prog (oLoad 51 x5) w2 fun x20 w3 =>
 pN Tryd.prog (oLoad 63 x6) w3 fun x21 w4 =>
 pN Tryd.prog (oCall 80 [x20, x21, x0, x18]) w4 fun x24 w5 =>
 Q (.tuple #[x18, x24]) w5)
noncomputable def tree_put_c1.c : Code := match Tryd.f91.body with | some c => c | none => .skip
theorem tree_put_c1.eq [Pan] (x0 : Value) (x1 : Value) (x2 : Value) (x3 : Value) (x4 : Value) (x5 : Value) (x6 : Value) (w : World) (Q : Value → World → Prop) : cw Tryd.prog tree_put_c1.H tree_put_c1.c (endQ Tryd.prog Tryd.f91.results.toList Q) (argsE [x0, x1, x2, x3, x4, x5, x6]) w = tree_put_c1.F x0 x1 x2 x3 x4 x5 x6 w Q := by kernel_rfl
theorem tree_put_c1.calls [Pan] {x0 : Value} {x1 : Value} {x2 : Value} {x3 : Value} {x4 : Value} {x5 : Value} {x6 : Value} {w : World} {Q : Value → World → Prop} (h : tree_put_c1.F x0 x1 x2 x3 x4 x5 x6 w Q) : Calls Tryd.prog 91 #[x0, x1, x2, x3, x4, x5, x6] w (retP Q) :=
  calls_of_cw (H := tree_put_c1.H) (c := tree_put_c1.c) (args := [x0, x1, x2, x3, x4, x5, x6]) mixed Tryd.func91 (by kernel_rfl) (by kernel_rfl) (Nat.le_of_ble_eq_true (by kernel_rfl)) ((tree_put_c1.eq x0 x1 x2 x3 x4 x5 x6 w Q).mpr h)

/-! tree_order: pith/tree.order; temporaries: 0:back 1:n 2:k 3:back 4:n 5:k -/
def tree_order.H : Hints := { cut := fun  | _ => none, loop := fun  | _ => ([], 0), order := fun  | _ => [] }
def tree_order.F [Pan] (x0 : Value) (x1 : Value) (x2 : Value) (w : World) (Q : Value → World → Prop) : Prop :=
 pIf x0
 (Q x2 w)
 (pN Tryd.prog (oBin .sub 3 (.tmp 9) (.const (.int .i64 1)) x1 (.int .i64 1)) w fun x10 w1 =>
 pN Tryd.prog (oBin .sub 3 (.tmp 10) (.tmp 11) x10 x2) w1 fun x12 w2 =>
 Q x12 w2)
noncomputable def tree_order.c : Code := match Tryd.f92.body with | some c => c | none => .skip
theorem tree_order.eq [Pan] (x0 : Value) (x1 : Value) (x2 : Value) (w : World) (Q : Value → World → Prop) : cw Tryd.prog tree_order.H tree_order.c (endQ Tryd.prog Tryd.f92.results.toList Q) (argsE [x0, x1, x2]) w = tree_order.F x0 x1 x2 w Q := by kernel_rfl
theorem tree_order.calls [Pan] {x0 : Value} {x1 : Value} {x2 : Value} {w : World} {Q : Value → World → Prop} (h : tree_order.F x0 x1 x2 w Q) : Calls Tryd.prog 92 #[x0, x1, x2] w (retP Q) :=
  calls_of_cw (H := tree_order.H) (c := tree_order.c) (args := [x0, x1, x2]) mixed Tryd.func92 (by kernel_rfl) (by kernel_rfl) (Nat.le_of_ble_eq_true (by kernel_rfl)) ((tree_order.eq x0 x1 x2 w Q).mpr h)

/-! tree_CostBack: pith/tree.CostBack; temporaries: 0:s 1:at 2:n 3:v 4:s 5:at 6:n 7:v -/
def tree_CostBack.H : Hints := { cut := fun  | _ => none, loop := fun  | _ => ([], 0), order := fun  | _ => [] }
def tree_CostBack.F [Pan] (x0 : Value) (x1 : Value) (x2 : Value) (x3 : Value) (w : World) (Q : Value → World → Prop) : Prop :=
 pN Tryd.prog (oCall 104 [x0, x1, x2, x3, (.bool true)]) w fun x14 w1 =>
 pN Tryd.prog (oExt x14 0) w1 fun x15 w2 =>
 pN Tryd.prog (oExt x14 1) w2 fun x16 w3 =>
 Q (.tuple #[x15, x16]) w3
noncomputable def tree_CostBack.c : Code := match Tryd.f101.body with | some c => c | none => .skip
theorem tree_CostBack.eq [Pan] (x0 : Value) (x1 : Value) (x2 : Value) (x3 : Value) (w : World) (Q : Value → World → Prop) : cw Tryd.prog tree_CostBack.H tree_CostBack.c (endQ Tryd.prog Tryd.f101.results.toList Q) (argsE [x0, x1, x2, x3]) w = tree_CostBack.F x0 x1 x2 x3 w Q := by kernel_rfl
theorem tree_CostBack.calls [Pan] {x0 : Value} {x1 : Value} {x2 : Value} {x3 : Value} {w : World} {Q : Value → World → Prop} (h : tree_CostBack.F x0 x1 x2 x3 w Q) : Calls Tryd.prog 101 #[x0, x1, x2, x3] w (retP Q) :=
  calls_of_cw (H := tree_CostBack.H) (c := tree_CostBack.c) (args := [x0, x1, x2, x3]) mixed Tryd.func101 (by kernel_rfl) (by kernel_rfl) (Nat.le_of_ble_eq_true (by kernel_rfl)) ((tree_CostBack.eq x0 x1 x2 x3 w Q).mpr h)

/-! tree_Cost: pith/tree.Cost; temporaries: 0:s 1:at 2:n 3:v 4:s 5:at 6:n 7:v -/
def tree_Cost.H : Hints := { cut := fun  | _ => none, loop := fun  | _ => ([], 0), order := fun  | _ => [] }
def tree_Cost.F [Pan] (x0 : Value) (x1 : Value) (x2 : Value) (x3 : Value) (w : World) (Q : Value → World → Prop) : Prop :=
 pN Tryd.prog (oCall 104 [x0, x1, x2, x3, (.bool false)]) w fun x14 w1 =>
 pN Tryd.prog (oExt x14 0) w1 fun x15 w2 =>
 pN Tryd.prog (oExt x14 1) w2 fun x16 w3 =>
 Q (.tuple #[x15, x16]) w3
noncomputable def tree_Cost.c : Code := match Tryd.f103.body with | some c => c | none => .skip
theorem tree_Cost.eq [Pan] (x0 : Value) (x1 : Value) (x2 : Value) (x3 : Value) (w : World) (Q : Value → World → Prop) : cw Tryd.prog tree_Cost.H tree_Cost.c (endQ Tryd.prog Tryd.f103.results.toList Q) (argsE [x0, x1, x2, x3]) w = tree_Cost.F x0 x1 x2 x3 w Q := by kernel_rfl
theorem tree_Cost.calls [Pan] {x0 : Value} {x1 : Value} {x2 : Value} {x3 : Value} {w : World} {Q : Value → World → Prop} (h : tree_Cost.F x0 x1 x2 x3 w Q) : Calls Tryd.prog 103 #[x0, x1, x2, x3] w (retP Q) :=
  calls_of_cw (H := tree_Cost.H) (c := tree_Cost.c) (args := [x0, x1, x2, x3]) mixed Tryd.func103 (by kernel_rfl) (by kernel_rfl) (Nat.le_of_ble_eq_true (by kernel_rfl)) ((tree_Cost.eq x0 x1 x2 x3 w Q).mpr h)

/-! tree_cost: pith/tree.cost; temporaries: 0:s 1:at 2:n 3:v 4:back 5:s 6:at 7:n 8:v 9:back 12:sum 13:e -/
def tree_cost.H : Hints := { cut := fun  | _ => none, loop := fun  | _ => ([], 0), order := fun  | _ => [] }
def tree_cost.F [Pan] (x0 : Value) (x1 : Value) (x2 : Value) (x3 : Value) (x4 : Value) (w : World) (Q : Value → World → Prop) : Prop :=
 pN Tryd.prog (oBox 63 x0) w fun x5 w1 =>
 pN Tryd.prog (oBox 3 x2) w1 fun x7 w2 =>
 pN Tryd.prog (oBox 3 x3) w2 fun x8 w3 =>
 pN Tryd.prog (oBox 4 x4) w3 fun x9 w4 =>
 pN Tryd.prog (oLoad 63 x5) w4 fun x14 w5 =>
 pN Tryd.prog (oLoad 3 x7) w5 fun x16 w6 =>
 pN Tryd.prog (oCall 88 [x14, x1, x16]) w6 fun x17 w7 =>
 pN Tryd.prog (oUn .not x17) w7 fun x18 w8 =>
 pGd (gB x18 false) (pN Tryd.prog (oLoad 3 x8) w8) w8 fun x20 w9 =>
 pGd (gB x18 false) (pN Tryd.prog (oLoad 3 x7) w9) w9 fun x21 w10 =>
 pGd (gB x18 false) (pN Tryd.prog (oCall 89 [x20, x21]) w10) w10 fun x22 w11 =>
 pGd (gB x18 false) (pN Tryd.prog (oUn .not x22) w11) w11 fun x23 w12 =>
 pN Tryd.prog (oPick x18 (.bool true) x23) w12 fun x24 w13 =>
 pIf x24
 (Q (.tuple #[(.int .i64 0), (.int .i64 7)]) w13)
 (pN Tryd.prog (oAlloc 3) w13 fun x12 w14 =>
 pN Tryd.prog (oStore 3 x12 (.int .i64 0)) w14 fun _ w15 =>
 pN Tryd.prog (oLoad 3 x7) w15 fun x26 w16 =>
 pN Tryd.prog (oFn (.func 106) [] [x8, x9, x7, x5, x12]) w16 fun x27 w17 =>
 pN Tryd.prog (oCall 90 [x1, x26, x27]) w17 fun x28 w18 =>
 pN Tryd.prog (oLoad 3 x12) w18 fun x29 w19 =>
 Q (.tuple #[x29, x28]) w19)
noncomputable def tree_cost.c : Code := match Tryd.f104.body with | some c => c | none => .skip
theorem tree_cost.eq [Pan] (x0 : Value) (x1 : Value) (x2 : Value) (x3 : Value) (x4 : Value) (w : World) (Q : Value → World → Prop) : cw Tryd.prog tree_cost.H tree_cost.c (endQ Tryd.prog Tryd.f104.results.toList Q) (argsE [x0, x1, x2, x3, x4]) w = tree_cost.F x0 x1 x2 x3 x4 w Q := by kernel_rfl
theorem tree_cost.calls [Pan] {x0 : Value} {x1 : Value} {x2 : Value} {x3 : Value} {x4 : Value} {w : World} {Q : Value → World → Prop} (h : tree_cost.F x0 x1 x2 x3 x4 w Q) : Calls Tryd.prog 104 #[x0, x1, x2, x3, x4] w (retP Q) :=
  calls_of_cw (H := tree_cost.H) (c := tree_cost.c) (args := [x0, x1, x2, x3, x4]) mixed Tryd.func104 (by kernel_rfl) (by kernel_rfl) (Nat.le_of_ble_eq_true (by kernel_rfl)) ((tree_cost.eq x0 x1 x2 x3 x4 w Q).mpr h)

/-! tree_cost_c1: pith/tree.cost$1; temporaries: 0:place 1:k 7:place 8:k 11:bit 12:p 13:e -/
def tree_cost_c1.H : Hints := { cut := fun  | _ => none, loop := fun  | _ => ([], 0), order := fun | 1 => [(0, 0), (1, 1), (2, 3), (3, 7), (4, 15), (5, 31), (6, 63), (7, 127)] | 3 => [(0, 0), (1, 1), (2, 3), (3, 7), (4, 15), (5, 31)] | _ => [] }
def tree_cost_c1.F [Pan] (x0 : Value) (x1 : Value) (x2 : Value) (x3 : Value) (x4 : Value) (x5 : Value) (x6 : Value) (w : World) (Q : Value → World → Prop) : Prop :=
 pDr w fun w1 =>
 pL Tryd.prog (oLoad 3 x2) w1 fun x14 =>
 pL Tryd.prog (oLoad 4 x3) w1 fun x15 =>
 pL Tryd.prog (oLoad 3 x4) w1 fun x16 =>
 pN Tryd.prog (oCall 92 [x15, x16, x1]) w1 fun x18 w2 =>
 ((Sem.run Tryd.prog (oLoad 3 x2) w2 = .ok (.value x14) w2) ∧ True) ∧ (pA Tryd.prog (oBin .shr 3 (.tmp 14) (.tmp 18) x14 x18) fun x19 =>
 pA Tryd.prog (oBin .and 3 (.tmp 19) (.const (.int .i64 1)) x19 (.int .i64 1)) fun x20 =>
 pN Tryd.prog (oLoad 63 x5) w2 fun x22 w3 =>
 pN Tryd.prog (oCall 84 [x22, x0]) w3 fun x24 w4 =>
 pN Tryd.prog (oExt x24 0) w4 fun x25 w5 =>
 pN Tryd.prog (oExt x24 1) w5 fun x26 w6 =>
 pDr w6 fun w7 =>
 pL Tryd.prog (oLoad 3 x6) w7 fun x27 =>
 pN Tryd.prog (oCall 102 [x25, x20]) w7 fun x30 w8 =>
 ((Sem.run Tryd.prog (oLoad 3 x6) w8 = .ok (.value x27) w8) ∧ True) ∧ (pA Tryd.prog (oBin .add 3 (.tmp 27) (.tmp 30) x27 x30) fun x31 =>
 pN Tryd.prog (oStore 3 x6 x31) w8 fun _ w9 =>
 (True) ∧ (Q (.tuple #[x20, x26]) w9)))
noncomputable def tree_cost_c1.c : Code := match Tryd.f106.body with | some c => c | none => .skip
theorem tree_cost_c1.eq [Pan] (x0 : Value) (x1 : Value) (x2 : Value) (x3 : Value) (x4 : Value) (x5 : Value) (x6 : Value) (w : World) (Q : Value → World → Prop) : cw Tryd.prog tree_cost_c1.H tree_cost_c1.c (endQ Tryd.prog Tryd.f106.results.toList Q) (argsE [x0, x1, x2, x3, x4, x5, x6]) w = tree_cost_c1.F x0 x1 x2 x3 x4 x5 x6 w Q := by kernel_rfl
theorem tree_cost_c1.calls [Pan] {x0 : Value} {x1 : Value} {x2 : Value} {x3 : Value} {x4 : Value} {x5 : Value} {x6 : Value} {w : World} {Q : Value → World → Prop} (h : tree_cost_c1.F x0 x1 x2 x3 x4 x5 x6 w Q) : Calls Tryd.prog 106 #[x0, x1, x2, x3, x4, x5, x6] w (retP Q) :=
  calls_of_cw (H := tree_cost_c1.H) (c := tree_cost_c1.c) (args := [x0, x1, x2, x3, x4, x5, x6]) mixed Tryd.func106 (by kernel_rfl) (by kernel_rfl) (Nat.le_of_ble_eq_true (by kernel_rfl)) ((tree_cost_c1.eq x0 x1 x2 x3 x4 x5 x6 w Q).mpr h)

end Go.Proofs.YtbgnnjfpiblkmaaDoor
