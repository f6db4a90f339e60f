/-
  Texts of one proof, one behind the other: LfTree, LfRcenc, LfProb, Open, Types, Prob, RPure, Rcenc.
-/
import Derived.Test.YtoejaggkedlfmaaRows
import Derived.ProofKit
import Derived.OpenShut
import Derived.ShutString
import Derived.ChangeOld
import Derived.SizedLaws
import Derived.Deep.Slices
import Derived.Deep.CondSized
import Derived.Test.YtoejaggkedlfmaaMg3
namespace Go.Proofs.Ytoejaggkedlfmaa
open Go
set_option linter.unusedSimpArgs false
set_option linter.unnecessarySimpa false
set_option linter.unusedSectionVars false
set_option linter.unusedVariables false
set_option maxRecDepth 100000

/-! tree_Cost: pith/tree.Cost; temporaries: 0:s 1:at 2:n 3:v 4:s 5:at 6:n 7:v -/
def tree_Cost.H : Hints := { cut := fun  | _ => none, loop := fun  | _ => ([], 0), order := fun  | _ => [] }
def tree_Cost.F [Pan] (x0 : Value) (x1 : Value) (x2 : Value) (x3 : Value) (w : World) (Q : Value → World → Prop) : Prop :=
 pN Try.prog (oCall 96 [x0, x1, x2, x3, (.bool false)]) w fun x14 w1 =>
 pN Try.prog (oExt x14 0) w1 fun x15 w2 =>
 pN Try.prog (oExt x14 1) w2 fun x16 w3 =>
 Q (.tuple #[x15, x16]) w3
noncomputable def tree_Cost.c : Code := match Try.f58.body with | some c => c | none => .skip
theorem tree_Cost.eq [Pan] (x0 : Value) (x1 : Value) (x2 : Value) (x3 : Value) (w : World) (Q : Value → World → Prop) : cw Try.prog tree_Cost.H tree_Cost.c (endQ Try.prog Try.f58.results.toList Q) (argsE [x0, x1, x2, x3]) w = tree_Cost.F x0 x1 x2 x3 w Q := by kernel_rfl
theorem tree_Cost.calls [Pan] {x0 : Value} {x1 : Value} {x2 : Value} {x3 : Value} {w : World} {Q : Value → World → Prop} (h : tree_Cost.F x0 x1 x2 x3 w Q) : Calls Try.prog 58 #[x0, x1, x2, x3] w (retP Q) :=
  calls_of_cw (H := tree_Cost.H) (c := tree_Cost.c) (args := [x0, x1, x2, x3]) mixed Try.func58 (by kernel_rfl) (by kernel_rfl) (Nat.le_of_ble_eq_true (by kernel_rfl)) ((tree_Cost.eq x0 x1 x2 x3 w Q).mpr h)

/-! tree_CostBack: pith/tree.CostBack; temporaries: 0:s 1:at 2:n 3:v 4:s 5:at 6:n 7:v -/
def tree_CostBack.H : Hints := { cut := fun  | _ => none, loop := fun  | _ => ([], 0), order := fun  | _ => [] }
def tree_CostBack.F [Pan] (x0 : Value) (x1 : Value) (x2 : Value) (x3 : Value) (w : World) (Q : Value → World → Prop) : Prop :=
 pN Try.prog (oCall 96 [x0, x1, x2, x3, (.bool true)]) w fun x14 w1 =>
 pN Try.prog (oExt x14 0) w1 fun x15 w2 =>
 pN Try.prog (oExt x14 1) w2 fun x16 w3 =>
 Q (.tuple #[x15, x16]) w3
noncomputable def tree_CostBack.c : Code := match Try.f59.body with | some c => c | none => .skip
theorem tree_CostBack.eq [Pan] (x0 : Value) (x1 : Value) (x2 : Value) (x3 : Value) (w : World) (Q : Value → World → Prop) : cw Try.prog tree_CostBack.H tree_CostBack.c (endQ Try.prog Try.f59.results.toList Q) (argsE [x0, x1, x2, x3]) w = tree_CostBack.F x0 x1 x2 x3 w Q := by kernel_rfl
theorem tree_CostBack.calls [Pan] {x0 : Value} {x1 : Value} {x2 : Value} {x3 : Value} {w : World} {Q : Value → World → Prop} (h : tree_CostBack.F x0 x1 x2 x3 w Q) : Calls Try.prog 59 #[x0, x1, x2, x3] w (retP Q) :=
  calls_of_cw (H := tree_CostBack.H) (c := tree_CostBack.c) (args := [x0, x1, x2, x3]) mixed Try.func59 (by kernel_rfl) (by kernel_rfl) (Nat.le_of_ble_eq_true (by kernel_rfl)) ((tree_CostBack.eq x0 x1 x2 x3 w Q).mpr h)

/-! tree_PutBack: pith/tree.PutBack; temporaries: 0:e 1:s 2:at 3:n 4:v 5:e 6:s 7:at 8:n 9:v -/
def tree_PutBack.H : Hints := { cut := fun  | _ => none, loop := fun  | _ => ([], 0), order := fun  | _ => [] }
def tree_PutBack.F [Pan] (x0 : Value) (x1 : Value) (x2 : Value) (x3 : Value) (x4 : Value) (w : World) (Q : Value → World → Prop) : Prop :=
 pN Try.prog (oCall 97 [x0, x1, x2, x3, x4, (.bool true)]) w fun x16 w1 =>
 Q x16 w1
noncomputable def tree_PutBack.c : Code := match Try.f60.body with | some c => c | none => .skip
theorem tree_PutBack.eq [Pan] (x0 : Value) (x1 : Value) (x2 : Value) (x3 : Value) (x4 : Value) (w : World) (Q : Value → World → Prop) : cw Try.prog tree_PutBack.H tree_PutBack.c (endQ Try.prog Try.f60.results.toList Q) (argsE [x0, x1, x2, x3, x4]) w = tree_PutBack.F x0 x1 x2 x3 x4 w Q := by kernel_rfl
theorem tree_PutBack.calls [Pan] {x0 : Value} {x1 : Value} {x2 : Value} {x3 : Value} {x4 : Value} {w : World} {Q : Value → World → Prop} (h : tree_PutBack.F x0 x1 x2 x3 x4 w Q) : Calls Try.prog 60 #[x0, x1, x2, x3, x4] w (retP Q) :=
  calls_of_cw (H := tree_PutBack.H) (c := tree_PutBack.c) (args := [x0, x1, x2, x3, x4]) mixed Try.func60 (by kernel_rfl) (by kernel_rfl) (Nat.le_of_ble_eq_true (by kernel_rfl)) ((tree_PutBack.eq x0 x1 x2 x3 x4 w Q).mpr h)

/-! tree_Put: pith/tree.Put; temporaries: 0:e 1:s 2:at 3:n 4:v 5:e 6:s 7:at 8:n 9:v -/
def tree_Put.H : Hints := { cut := fun  | _ => none, loop := fun  | _ => ([], 0), order := fun  | _ => [] }
def tree_Put.F [Pan] (x0 : Value) (x1 : Value) (x2 : Value) (x3 : Value) (x4 : Value) (w : World) (Q : Value → World → Prop) : Prop :=
 pN Try.prog (oCall 97 [x0, x1, x2, x3, x4, (.bool false)]) w fun x16 w1 =>
 Q x16 w1
noncomputable def tree_Put.c : Code := match Try.f61.body with | some c => c | none => .skip
theorem tree_Put.eq [Pan] (x0 : Value) (x1 : Value) (x2 : Value) (x3 : Value) (x4 : Value) (w : World) (Q : Value → World → Prop) : cw Try.prog tree_Put.H tree_Put.c (endQ Try.prog Try.f61.results.toList Q) (argsE [x0, x1, x2, x3, x4]) w = tree_Put.F x0 x1 x2 x3 x4 w Q := by kernel_rfl
theorem tree_Put.calls [Pan] {x0 : Value} {x1 : Value} {x2 : Value} {x3 : Value} {x4 : Value} {w : World} {Q : Value → World → Prop} (h : tree_Put.F x0 x1 x2 x3 x4 w Q) : Calls Try.prog 61 #[x0, x1, x2, x3, x4] w (retP Q) :=
  calls_of_cw (H := tree_Put.H) (c := tree_Put.c) (args := [x0, x1, x2, x3, x4]) mixed Try.func61 (by kernel_rfl) (by kernel_rfl) (Nat.le_of_ble_eq_true (by kernel_rfl)) ((tree_Put.eq x0 x1 x2 x3 x4 w Q).mpr h)

/-! tree_cost: pith/tree.cost; temporaries: 0:s 1:at 2:n 3:v 4:back 5:s 6:at 7:n 8:v 9:back 12:sum 13:e -/
def tree_cost.H : Hints := { cut := fun  | _ => none, loop := fun  | _ => ([], 0), order := fun  | _ => [] }
def tree_cost.F [Pan] (x0 : Value) (x1 : Value) (x2 : Value) (x3 : Value) (x4 : Value) (w : World) (Q : Value → World → Prop) : Prop :=
 pN Try.prog (oBox 34 x0) w fun x5 w1 =>
 pN Try.prog (oBox 3 x2) w1 fun x7 w2 =>
 pN Try.prog (oBox 3 x3) w2 fun x8 w3 =>
 pN Try.prog (oBox 4 x4) w3 fun x9 w4 =>
 pN Try.prog (oLoad 34 x5) w4 fun x14 w5 =>
 pN Try.prog (oLoad 3 x7) w5 fun x16 w6 =>
 pN Try.prog (oCall 107 [x14, x1, x16]) w6 fun x17 w7 =>
 pN Try.prog (oUn .not x17) w7 fun x18 w8 =>
 pGd (gB x18 false) (pN Try.prog (oLoad 3 x8) w8) w8 fun x20 w9 =>
 pGd (gB x18 false) (pN Try.prog (oLoad 3 x7) w9) w9 fun x21 w10 =>
 pGd (gB x18 false) (pN Try.prog (oCall 108 [x20, x21]) w10) w10 fun x22 w11 =>
 pGd (gB x18 false) (pN Try.prog (oUn .not x22) w11) w11 fun x23 w12 =>
 pN Try.prog (oPick x18 (.bool true) x23) w12 fun x24 w13 =>
 pIf x24
 (Q (.tuple #[(.int .i64 0), (.int .i64 7)]) w13)
 (pN Try.prog (oAlloc 3) w13 fun x12 w14 =>
 pN Try.prog (oStore 3 x12 (.int .i64 0)) w14 fun _ w15 =>
 pN Try.prog (oLoad 3 x7) w15 fun x26 w16 =>
 pN Try.prog (oFn (.func 110) [] [x8, x9, x7, x5, x12]) w16 fun x27 w17 =>
 pN Try.prog (oCall 109 [x1, x26, x27]) w17 fun x28 w18 =>
 pN Try.prog (oLoad 3 x12) w18 fun x29 w19 =>
 Q (.tuple #[x29, x28]) w19)
noncomputable def tree_cost.c : Code := match Try.f96.body with | some c => c | none => .skip
theorem tree_cost.eq [Pan] (x0 : Value) (x1 : Value) (x2 : Value) (x3 : Value) (x4 : Value) (w : World) (Q : Value → World → Prop) : cw Try.prog tree_cost.H tree_cost.c (endQ Try.prog Try.f96.results.toList Q) (argsE [x0, x1, x2, x3, x4]) w = tree_cost.F x0 x1 x2 x3 x4 w Q := by kernel_rfl
theorem tree_cost.calls [Pan] {x0 : Value} {x1 : Value} {x2 : Value} {x3 : Value} {x4 : Value} {w : World} {Q : Value → World → Prop} (h : tree_cost.F x0 x1 x2 x3 x4 w Q) : Calls Try.prog 96 #[x0, x1, x2, x3, x4] w (retP Q) :=
  calls_of_cw (H := tree_cost.H) (c := tree_cost.c) (args := [x0, x1, x2, x3, x4]) mixed Try.func96 (by kernel_rfl) (by kernel_rfl) (Nat.le_of_ble_eq_true (by kernel_rfl)) ((tree_cost.eq x0 x1 x2 x3 x4 w Q).mpr h)

/-! tree_put: pith/tree.put; temporaries: 0:e 1:s 2:at 3:n 4:v 5:back 6:e 7:s 8:at 9:n 10:v 11:back -/
def tree_put.H : Hints := { cut := fun  | _ => none, loop := fun  | _ => ([], 0), order := fun  | _ => [] }
def tree_put.F [Pan] (x0 : Value) (x1 : Value) (x2 : Value) (x3 : Value) (x4 : Value) (x5 : Value) (w : World) (Q : Value → World → Prop) : Prop :=
 pN Try.prog (oBox 24 x0) w fun x6 w1 =>
 pN Try.prog (oBox 34 x1) w1 fun x7 w2 =>
 pN Try.prog (oBox 3 x3) w2 fun x9 w3 =>
 pN Try.prog (oBox 3 x4) w3 fun x10 w4 =>
 pN Try.prog (oBox 4 x5) w4 fun x11 w5 =>
 pN Try.prog (oLoad 34 x7) w5 fun x13 w6 =>
 pN Try.prog (oLoad 3 x9) w6 fun x15 w7 =>
 pN Try.prog (oCall 107 [x13, x2, x15]) w7 fun x16 w8 =>
 pN Try.prog (oUn .not x16) w8 fun x17 w9 =>
 pGd (gB x17 false) (pN Try.prog (oLoad 3 x10) w9) w9 fun x19 w10 =>
 pGd (gB x17 false) (pN Try.prog (oLoad 3 x9) w10) w10 fun x20 w11 =>
 pGd (gB x17 false) (pN Try.prog (oCall 108 [x19, x20]) w11) w11 fun x21 w12 =>
 pGd (gB x17 false) (pN Try.prog (oUn .not x21) w12) w12 fun x22 w13 =>
 pN Try.prog (oPick x17 (.bool true) x22) w13 fun x23 w14 =>
 pIf x23
 (Q (.int .i64 7) w14)
 (pN Try.prog (oLoad 3 x9) w14 fun x25 w15 =>
 pN Try.prog (oFn (.func 113) [] [x10, x11, x9, x6, x7]) w15 fun x26 w16 =>
 pN Try.prog (oCall 109 [x2, x25, x26]) w16 fun x27 w17 =>
 Q x27 w17)
noncomputable def tree_put.c : Code := match Try.f97.body with | some c => c | none => .skip
theorem tree_put.eq [Pan] (x0 : Value) (x1 : Value) (x2 : Value) (x3 : Value) (x4 : Value) (x5 : Value) (w : World) (Q : Value → World → Prop) : cw Try.prog tree_put.H tree_put.c (endQ Try.prog Try.f97.results.toList Q) (argsE [x0, x1, x2, x3, x4, x5]) w = tree_put.F x0 x1 x2 x3 x4 x5 w Q := by kernel_rfl
theorem tree_put.calls [Pan] {x0 : Value} {x1 : Value} {x2 : Value} {x3 : Value} {x4 : Value} {x5 : Value} {w : World} {Q : Value → World → Prop} (h : tree_put.F x0 x1 x2 x3 x4 x5 w Q) : Calls Try.prog 97 #[x0, x1, x2, x3, x4, x5] w (retP Q) :=
  calls_of_cw (H := tree_put.H) (c := tree_put.c) (args := [x0, x1, x2, x3, x4, x5]) mixed Try.func97 (by kernel_rfl) (by kernel_rfl) (Nat.le_of_ble_eq_true (by kernel_rfl)) ((tree_put.eq x0 x1 x2 x3 x4 x5 w Q).mpr h)

/-! tree_Get: pith/tree.Get; temporaries: 0:d 1:s 2:at 3:n 4:d 5:s 6:at 7:n -/
def tree_Get.H : Hints := { cut := fun  | _ => none, loop := fun  | _ => ([], 0), order := fun  | _ => [] }
def tree_Get.F [Pan] (x0 : Value) (x1 : Value) (x2 : Value) (x3 : Value) (w : World) (Q : Value → World → Prop) : Prop :=
 pN Try.prog (oCall 118 [x0, x1, x2, x3, (.bool false)]) w fun x14 w1 =>
 pN Try.prog (oExt x14 0) w1 fun x15 w2 =>
 pN Try.prog (oExt x14 1) w2 fun x16 w3 =>
 Q (.tuple #[x15, x16]) w3
noncomputable def tree_Get.c : Code := match Try.f101.body with | some c => c | none => .skip
theorem tree_Get.eq [Pan] (x0 : Value) (x1 : Value) (x2 : Value) (x3 : Value) (w : World) (Q : Value → World → Prop) : cw Try.prog tree_Get.H tree_Get.c (endQ Try.prog Try.f101.results.toList Q) (argsE [x0, x1, x2, x3]) w = tree_Get.F x0 x1 x2 x3 w Q := by kernel_rfl
theorem tree_Get.calls [Pan] {x0 : Value} {x1 : Value} {x2 : Value} {x3 : Value} {w : World} {Q : Value → World → Prop} (h : tree_Get.F x0 x1 x2 x3 w Q) : Calls Try.prog 101 #[x0, x1, x2, x3] w (retP Q) :=
  calls_of_cw (H := tree_Get.H) (c := tree_Get.c) (args := [x0, x1, x2, x3]) mixed Try.func101 (by kernel_rfl) (by kernel_rfl) (Nat.le_of_ble_eq_true (by kernel_rfl)) ((tree_Get.eq x0 x1 x2 x3 w Q).mpr h)

/-! tree_GetBack: pith/tree.GetBack; temporaries: 0:d 1:s 2:at 3:n 4:d 5:s 6:at 7:n -/
def tree_GetBack.H : Hints := { cut := fun  | _ => none, loop := fun  | _ => ([], 0), order := fun  | _ => [] }
def tree_GetBack.F [Pan] (x0 : Value) (x1 : Value) (x2 : Value) (x3 : Value) (w : World) (Q : Value → World → Prop) : Prop :=
 pN Try.prog (oCall 118 [x0, x1, x2, x3, (.bool true)]) w fun x14 w1 =>
 pN Try.prog (oExt x14 0) w1 fun x15 w2 =>
 pN Try.prog (oExt x14 1) w2 fun x16 w3 =>
 Q (.tuple #[x15, x16]) w3
noncomputable def tree_GetBack.c : Code := match Try.f103.body with | some c => c | none => .skip
theorem tree_GetBack.eq [Pan] (x0 : Value) (x1 : Value) (x2 : Value) (x3 : Value) (w : World) (Q : Value → World → Prop) : cw Try.prog tree_GetBack.H tree_GetBack.c (endQ Try.prog Try.f103.results.toList Q) (argsE [x0, x1, x2, x3]) w = tree_GetBack.F x0 x1 x2 x3 w Q := by kernel_rfl
theorem tree_GetBack.calls [Pan] {x0 : Value} {x1 : Value} {x2 : Value} {x3 : Value} {w : World} {Q : Value → World → Prop} (h : tree_GetBack.F x0 x1 x2 x3 w Q) : Calls Try.prog 103 #[x0, x1, x2, x3] w (retP Q) :=
  calls_of_cw (H := tree_GetBack.H) (c := tree_GetBack.c) (args := [x0, x1, x2, x3]) mixed Try.func103 (by kernel_rfl) (by kernel_rfl) (Nat.le_of_ble_eq_true (by kernel_rfl)) ((tree_GetBack.eq x0 x1 x2 x3 w Q).mpr h)

/-! tree_there: pith/tree.there; temporaries: 0:s 1:at 2:n 3:s 4:at 5:n -/
def tree_there.H : Hints := { cut := fun  | _ => none, loop := fun  | _ => ([], 0), order := fun | 1 => [(0, 0), (1, 1), (2, 3), (3, 7), (4, 15), (5, 31), (6, 63), (7, 127), (8, 255), (9, 511), (10, 1023), (11, 2047), (12, 4095), (13, 8191), (14, 16383), (15, 32767), (16, 65535), (17, 131071), (18, 262143), (19, 524287), (21, 1048575), (20, 3145727), (22, 4194303), (23, 8388607), (24, 16777215), (25, 33554431)] | _ => [] }
def tree_there.F [Pan] (x0 : Value) (x1 : Value) (x2 : Value) (w : World) (Q : Value → World → Prop) : Prop :=
 pDr w fun w1 =>
 pA Try.prog (oBin .geq 3 (.tmp 7) (.const (.int .i64 0)) x2 (.int .i64 0)) fun x8 =>
 gA (gB x8 true) (pA Try.prog (oMv x2)) fun x10 =>
 gA (gB x8 true) (pA Try.prog (oBin .leq 3 (.tmp 10) (.const (.int .i64 16)) x10 (.int .i64 16))) fun x11 =>
 pA Try.prog (oPick x8 x11 (.bool false)) fun x12 =>
 gA (gB x12 true) (pA Try.prog (oMv x1)) fun x14 =>
 gA (gB x12 true) (pA Try.prog (oBin .geq 3 (.tmp 14) (.const (.int .i64 0)) x14 (.int .i64 0))) fun x15 =>
 pA Try.prog (oPick x12 x15 (.bool false)) fun x16 =>
 gA (gB x16 true) (pA Try.prog (oMv x1)) fun x18 =>
 gA (gB x16 true) (pA Try.prog (oMv x0)) fun x19 =>
 pGd (gB x16 true) (pN Try.prog (oCall 63 [x19]) w1) w1 fun x20 w2 =>
 (True) ∧ (gA (gB x16 true) (pA Try.prog (oBin .leq 3 (.tmp 18) (.tmp 20) x18 x20)) fun x21 =>
 pA Try.prog (oPick x16 x21 (.bool false)) fun x22 =>
 gA (gB x22 true) (pA Try.prog (oMv x2)) fun x24 =>
 gA (gB x22 true) (pA Try.prog (oBin .shl 3 (.const (.int .i64 1)) (.tmp 24) (.int .i64 1) x24)) fun x25 =>
 gA (gB x22 true) (pA Try.prog (oMv x0)) fun x26 =>
 gA (gB x22 true) (pA Try.prog (oMv x1)) fun x28 =>
 pGd (gB x22 true) (pN Try.prog (oCall 63 [x26]) w2) w2 fun x27 w3 =>
 (True) ∧ (gA (gB x22 true) (pA Try.prog (oBin .sub 3 (.tmp 27) (.tmp 28) x27 x28)) fun x29 =>
 gA (gB x22 true) (pA Try.prog (oBin .leq 3 (.tmp 25) (.tmp 29) x25 x29)) fun x30 =>
 pA Try.prog (oPick x22 x30 (.bool false)) fun x31 =>
 Q x31 w3))
noncomputable def tree_there.c : Code := match Try.f107.body with | some c => c | none => .skip
theorem tree_there.eq [Pan] (x0 : Value) (x1 : Value) (x2 : Value) (w : World) (Q : Value → World → Prop) : cw Try.prog tree_there.H tree_there.c (endQ Try.prog Try.f107.results.toList Q) (argsE [x0, x1, x2]) w = tree_there.F x0 x1 x2 w Q := by kernel_rfl
theorem tree_there.calls [Pan] {x0 : Value} {x1 : Value} {x2 : Value} {w : World} {Q : Value → World → Prop} (h : tree_there.F x0 x1 x2 w Q) : Calls Try.prog 107 #[x0, x1, x2] w (retP Q) :=
  calls_of_cw (H := tree_there.H) (c := tree_there.c) (args := [x0, x1, x2]) mixed Try.func107 (by kernel_rfl) (by kernel_rfl) (Nat.le_of_ble_eq_true (by kernel_rfl)) ((tree_there.eq x0 x1 x2 w Q).mpr h)

/-! tree_holds: pith/tree.holds; temporaries: 0:v 1:n 2:v 3:n -/
def tree_holds.H : Hints := { cut := fun  | _ => none, loop := fun  | _ => ([], 0), order := fun  | _ => [] }
def tree_holds.F [Pan] (x0 : Value) (x1 : Value) (w : World) (Q : Value → World → Prop) : Prop :=
 pN Try.prog (oBin .geq 3 (.tmp 5) (.const (.int .i64 0)) x0 (.int .i64 0)) w fun x6 w1 =>
 pGd (gB x6 true) (pN Try.prog (oMv x0) w1) w1 fun x8 w2 =>
 pGd (gB x6 true) (pN Try.prog (oMv x1) w2) w2 fun x9 w3 =>
 pGd (gB x6 true) (pN Try.prog (oBin .shl 3 (.const (.int .i64 1)) (.tmp 9) (.int .i64 1) x9) w3) w3 fun x10 w4 =>
 pGd (gB x6 true) (pN Try.prog (oBin .lss 3 (.tmp 8) (.tmp 10) x8 x10) w4) w4 fun x11 w5 =>
 pN Try.prog (oPick x6 x11 (.bool false)) w5 fun x12 w6 =>
 Q x12 w6
noncomputable def tree_holds.c : Code := match Try.f108.body with | some c => c | none => .skip
theorem tree_holds.eq [Pan] (x0 : Value) (x1 : Value) (w : World) (Q : Value → World → Prop) : cw Try.prog tree_holds.H tree_holds.c (endQ Try.prog Try.f108.results.toList Q) (argsE [x0, x1]) w = tree_holds.F x0 x1 w Q := by kernel_rfl
theorem tree_holds.calls [Pan] {x0 : Value} {x1 : Value} {w : World} {Q : Value → World → Prop} (h : tree_holds.F x0 x1 w Q) : Calls Try.prog 108 #[x0, x1] w (retP Q) :=
  calls_of_cw (H := tree_holds.H) (c := tree_holds.c) (args := [x0, x1]) mixed Try.func108 (by kernel_rfl) (by kernel_rfl) (Nat.le_of_ble_eq_true (by kernel_rfl)) ((tree_holds.eq x0 x1 w Q).mpr h)

/-! tree_down: pith/tree.down; temporaries: 0:at 1:n 2:do 3:at 4:n 5:do 7:m 8:k 9:bit 10:e -/
def tree_down.H : Hints := { cut := fun  | _ => none, loop := fun | 3 => ([7, 12], 4294965184) | _ => ([], 0), order := fun  | _ => [] }
def tree_down.F [Pan] (x0 : Value) (x1 : Value) (x2 : Value) (w : World) (Q : Value → World → Prop) : Prop :=
 ∃ (L3 : Value → Value → World → Prop) (m3 : Value → Value → World → Nat),
 L3 (.int .i64 1) (.int .i64 0) w ∧
 ∀ (_k3 : Env) (m7l3 : Value) (v12l3 : Value) (w1 : World), L3 m7l3 v12l3 w1 →
 pN Try.prog (oBin .lss 3 (.tmp 12) (.tmp 11) v12l3 x1) w1 fun x13 w2 =>
 pIf x13
 (pN Try.prog (oBin .add 3 (.tmp 17) (.tmp 18) x0 m7l3) w2 fun x19 w3 =>
 pN Try.prog (oCallV x2 [x19, v12l3]) w3 fun x21 w4 =>
 pN Try.prog (oExt x21 0) w4 fun x22 w5 =>
 pN Try.prog (oExt x21 1) w5 fun x23 w6 =>
 pN Try.prog (oBin .neq 27 (.tmp 24) (.const (.int .i64 0)) x23 (.int .i64 0)) w6 fun x25 w7 =>
 pIf x25
 (Q x23 w7)
 (pN Try.prog (oBin .mul 3 (.const (.int .i64 2)) (.tmp 27) (.int .i64 2) m7l3) w7 fun x28 w8 =>
 pN Try.prog (oBin .add 3 (.tmp 28) (.tmp 29) x28 x22) w8 fun x30 w9 =>
 pN Try.prog (oBin .add 3 (.tmp 12) (.const (.int .i64 1)) v12l3 (.int .i64 1)) w9 fun x31 w10 =>
 (L3 x30 x31 w10 ∧ m3 x30 x31 w10 < m3 m7l3 v12l3 w1)))
 (Q (.int .i64 0) w2)
noncomputable def tree_down.c : Code := match Try.f109.body with | some c => c | none => .skip
theorem tree_down.eq [Pan] (x0 : Value) (x1 : Value) (x2 : Value) (w : World) (Q : Value → World → Prop) : cw Try.prog tree_down.H tree_down.c (endQ Try.prog Try.f109.results.toList Q) (argsE [x0, x1, x2]) w = tree_down.F x0 x1 x2 w Q := by kernel_rfl
theorem tree_down.calls [Pan] {x0 : Value} {x1 : Value} {x2 : Value} {w : World} {Q : Value → World → Prop} (h : tree_down.F x0 x1 x2 w Q) : Calls Try.prog 109 #[x0, x1, x2] w (retP Q) :=
  calls_of_cw (H := tree_down.H) (c := tree_down.c) (args := [x0, x1, x2]) mixed Try.func109 (by kernel_rfl) (by kernel_rfl) (Nat.le_of_ble_eq_true (by kernel_rfl)) ((tree_down.eq x0 x1 x2 w Q).mpr h)

/-! tree_cost_c1: pith/tree.cost$1; temporaries: 0:place 1:k 7:place 8:k 11:bit 12:p 13:e -/
def tree_cost_c1.H : Hints := { cut := fun  | _ => none, loop := fun  | _ => ([], 0), order := fun | 1 => [(0, 0), (1, 1), (2, 3), (3, 7), (4, 15), (5, 31), (6, 63), (7, 127)] | 3 => [(0, 0), (1, 1), (2, 3), (3, 7), (4, 15), (5, 31)] | _ => [] }
def tree_cost_c1.F [Pan] (x0 : Value) (x1 : Value) (x2 : Value) (x3 : Value) (x4 : Value) (x5 : Value) (x6 : Value) (w : World) (Q : Value → World → Prop) : Prop :=
 pDr w fun w1 =>
 pL Try.prog (oLoad 3 x2) w1 fun x14 =>
 pL Try.prog (oLoad 4 x3) w1 fun x15 =>
 pL Try.prog (oLoad 3 x4) w1 fun x16 =>
 pN Try.prog (oCall 111 [x15, x16, x1]) w1 fun x18 w2 =>
 ((Sem.run Try.prog (oLoad 3 x2) w2 = .ok (.value x14) w2) ∧ True) ∧ (pA Try.prog (oBin .shr 3 (.tmp 14) (.tmp 18) x14 x18) fun x19 =>
 pA Try.prog (oBin .and 3 (.tmp 19) (.const (.int .i64 1)) x19 (.int .i64 1)) fun x20 =>
 pN Try.prog (oLoad 34 x5) w2 fun x22 w3 =>
 pN Try.prog (oCall 28 [x22, x0]) w3 fun x24 w4 =>
 pN Try.prog (oExt x24 0) w4 fun x25 w5 =>
 pN Try.prog (oExt x24 1) w5 fun x26 w6 =>
 pDr w6 fun w7 =>
 pL Try.prog (oLoad 3 x6) w7 fun x27 =>
 pN Try.prog (oCall 112 [x25, x20]) w7 fun x30 w8 =>
 ((Sem.run Try.prog (oLoad 3 x6) w8 = .ok (.value x27) w8) ∧ True) ∧ (pA Try.prog (oBin .add 3 (.tmp 27) (.tmp 30) x27 x30) fun x31 =>
 pN Try.prog (oStore 3 x6 x31) w8 fun _ w9 =>
 (True) ∧ (Q (.tuple #[x20, x26]) w9)))
noncomputable def tree_cost_c1.c : Code := match Try.f110.body with | some c => c | none => .skip
theorem tree_cost_c1.eq [Pan] (x0 : Value) (x1 : Value) (x2 : Value) (x3 : Value) (x4 : Value) (x5 : Value) (x6 : Value) (w : World) (Q : Value → World → Prop) : cw Try.prog tree_cost_c1.H tree_cost_c1.c (endQ Try.prog Try.f110.results.toList Q) (argsE [x0, x1, x2, x3, x4, x5, x6]) w = tree_cost_c1.F x0 x1 x2 x3 x4 x5 x6 w Q := by kernel_rfl
theorem tree_cost_c1.calls [Pan] {x0 : Value} {x1 : Value} {x2 : Value} {x3 : Value} {x4 : Value} {x5 : Value} {x6 : Value} {w : World} {Q : Value → World → Prop} (h : tree_cost_c1.F x0 x1 x2 x3 x4 x5 x6 w Q) : Calls Try.prog 110 #[x0, x1, x2, x3, x4, x5, x6] w (retP Q) :=
  calls_of_cw (H := tree_cost_c1.H) (c := tree_cost_c1.c) (args := [x0, x1, x2, x3, x4, x5, x6]) mixed Try.func110 (by kernel_rfl) (by kernel_rfl) (Nat.le_of_ble_eq_true (by kernel_rfl)) ((tree_cost_c1.eq x0 x1 x2 x3 x4 x5 x6 w Q).mpr h)

/-! tree_order: pith/tree.order; temporaries: 0:back 1:n 2:k 3:back 4:n 5:k -/
def tree_order.H : Hints := { cut := fun  | _ => none, loop := fun  | _ => ([], 0), order := fun  | _ => [] }
def tree_order.F [Pan] (x0 : Value) (x1 : Value) (x2 : Value) (w : World) (Q : Value → World → Prop) : Prop :=
 pIf x0
 (Q x2 w)
 (pN Try.prog (oBin .sub 3 (.tmp 9) (.const (.int .i64 1)) x1 (.int .i64 1)) w fun x10 w1 =>
 pN Try.prog (oBin .sub 3 (.tmp 10) (.tmp 11) x10 x2) w1 fun x12 w2 =>
 Q x12 w2)
noncomputable def tree_order.c : Code := match Try.f111.body with | some c => c | none => .skip
theorem tree_order.eq [Pan] (x0 : Value) (x1 : Value) (x2 : Value) (w : World) (Q : Value → World → Prop) : cw Try.prog tree_order.H tree_order.c (endQ Try.prog Try.f111.results.toList Q) (argsE [x0, x1, x2]) w = tree_order.F x0 x1 x2 w Q := by kernel_rfl
theorem tree_order.calls [Pan] {x0 : Value} {x1 : Value} {x2 : Value} {w : World} {Q : Value → World → Prop} (h : tree_order.F x0 x1 x2 w Q) : Calls Try.prog 111 #[x0, x1, x2] w (retP Q) :=
  calls_of_cw (H := tree_order.H) (c := tree_order.c) (args := [x0, x1, x2]) mixed Try.func111 (by kernel_rfl) (by kernel_rfl) (Nat.le_of_ble_eq_true (by kernel_rfl)) ((tree_order.eq x0 x1 x2 w Q).mpr h)

/-! tree_put_c1: pith/tree.put$1; temporaries: 0:place 1:k 7:place 8:k 11:bit -/
def tree_put_c1.H : Hints := { cut := fun  | _ => none, loop := fun  | _ => ([], 0), order := fun | 1 => [(0, 0), (1, 1), (2, 3), (3, 7), (4, 15), (5, 31), (6, 63), (7, 127)] | _ => [] }
def tree_put_c1.F [Pan] (x0 : Value) (x1 : Value) (x2 : Value) (x3 : Value) (x4 : Value) (x5 : Value) (x6 : Value) (w : World) (Q : Value → World → Prop) : Prop :=
 pDr w fun w1 =>
 pL Try.prog (oLoad 3 x2) w1 fun x12 =>
 pL Try.prog (oLoad 4 x3) w1 fun x13 =>
 pL Try.prog (oLoad 3 x4) w1 fun x14 =>
 pN Try.prog (oCall 111 [x13, x14, x1]) w1 fun x16 w2 =>
 ((Sem.run Try.prog (oLoad 3 x2) w2 = .ok (.value x12) w2) ∧ True) ∧ (pA Try.prog (oBin .shr 3 (.tmp 12) (.tmp 16) x12 x16) fun x17 =>
 pA Try.prog (oBin .and 3 (.tmp 17) (.const (.int .i64 1)) x17 (.int .i64 1)) fun x18 =>
 pN Try.prog (oLoad 24 x5) w2 fun x20 w3 =>
 pN Try.prog (oLoad 34 x6) w3 fun x21 w4 =>
 pN Try.prog (oCall 27 [x20, x21, x0, x18]) w4 fun x24 w5 =>
 Q (.tuple #[x18, x24]) w5)
noncomputable def tree_put_c1.c : Code := match Try.f113.body with | some c => c | none => .skip
theorem tree_put_c1.eq [Pan] (x0 : Value) (x1 : Value) (x2 : Value) (x3 : Value) (x4 : Value) (x5 : Value) (x6 : Value) (w : World) (Q : Value → World → Prop) : cw Try.prog tree_put_c1.H tree_put_c1.c (endQ Try.prog Try.f113.results.toList Q) (argsE [x0, x1, x2, x3, x4, x5, x6]) w = tree_put_c1.F x0 x1 x2 x3 x4 x5 x6 w Q := by kernel_rfl
theorem tree_put_c1.calls [Pan] {x0 : Value} {x1 : Value} {x2 : Value} {x3 : Value} {x4 : Value} {x5 : Value} {x6 : Value} {w : World} {Q : Value → World → Prop} (h : tree_put_c1.F x0 x1 x2 x3 x4 x5 x6 w Q) : Calls Try.prog 113 #[x0, x1, x2, x3, x4, x5, x6] w (retP Q) :=
  calls_of_cw (H := tree_put_c1.H) (c := tree_put_c1.c) (args := [x0, x1, x2, x3, x4, x5, x6]) mixed Try.func113 (by kernel_rfl) (by kernel_rfl) (Nat.le_of_ble_eq_true (by kernel_rfl)) ((tree_put_c1.eq x0 x1 x2 x3 x4 x5 x6 w Q).mpr h)

/-! tree_get: pith/tree.get; temporaries: 0:d 1:s 2:at 3:n 4:back 5:d 6:s 7:at 8:n 9:back 12:v 13:e -/
def tree_get.H : Hints := { cut := fun  | _ => none, loop := fun  | _ => ([], 0), order := fun  | _ => [] }
def tree_get.F [Pan] (x0 : Value) (x1 : Value) (x2 : Value) (x3 : Value) (x4 : Value) (w : World) (Q : Value → World → Prop) : Prop :=
 pN Try.prog (oBox 75 x0) w fun x5 w1 =>
 pN Try.prog (oBox 34 x1) w1 fun x6 w2 =>
 pN Try.prog (oBox 3 x3) w2 fun x8 w3 =>
 pN Try.prog (oBox 4 x4) w3 fun x9 w4 =>
 pN Try.prog (oLoad 34 x6) w4 fun x14 w5 =>
 pN Try.prog (oLoad 3 x8) w5 fun x16 w6 =>
 pN Try.prog (oCall 107 [x14, x2, x16]) w6 fun x17 w7 =>
 pN Try.prog (oUn .not x17) w7 fun x18 w8 =>
 pIf x18
 (Q (.tuple #[(.int .i64 0), (.int .i64 7)]) w8)
 (pN Try.prog (oAlloc 3) w8 fun x12 w9 =>
 pN Try.prog (oStore 3 x12 (.int .i64 0)) w9 fun _ w10 =>
 pN Try.prog (oLoad 3 x8) w10 fun x20 w11 =>
 pN Try.prog (oFn (.func 123) [] [x5, x6, x12, x9, x8]) w11 fun x21 w12 =>
 pN Try.prog (oCall 109 [x2, x20, x21]) w12 fun x22 w13 =>
 pN Try.prog (oBin .neq 27 (.tmp 23) (.const (.int .i64 0)) x22 (.int .i64 0)) w13 fun x24 w14 =>
 pIf x24
 (Q (.tuple #[(.int .i64 0), x22]) w14)
 (pN Try.prog (oLoad 3 x12) w14 fun x26 w15 =>
 Q (.tuple #[x26, (.int .i64 0)]) w15))
noncomputable def tree_get.c : Code := match Try.f118.body with | some c => c | none => .skip
theorem tree_get.eq [Pan] (x0 : Value) (x1 : Value) (x2 : Value) (x3 : Value) (x4 : Value) (w : World) (Q : Value → World → Prop) : cw Try.prog tree_get.H tree_get.c (endQ Try.prog Try.f118.results.toList Q) (argsE [x0, x1, x2, x3, x4]) w = tree_get.F x0 x1 x2 x3 x4 w Q := by kernel_rfl
theorem tree_get.calls [Pan] {x0 : Value} {x1 : Value} {x2 : Value} {x3 : Value} {x4 : Value} {w : World} {Q : Value → World → Prop} (h : tree_get.F x0 x1 x2 x3 x4 w Q) : Calls Try.prog 118 #[x0, x1, x2, x3, x4] w (retP Q) :=
  calls_of_cw (H := tree_get.H) (c := tree_get.c) (args := [x0, x1, x2, x3, x4]) mixed Try.func118 (by kernel_rfl) (by kernel_rfl) (Nat.le_of_ble_eq_true (by kernel_rfl)) ((tree_get.eq x0 x1 x2 x3 x4 w Q).mpr h)

/-! tree_get_c1: pith/tree.get$1; temporaries: 0:place 1:k 7:place 8:k 11:bit 12:e -/
def tree_get_c1.H : Hints := { cut := fun  | _ => none, loop := fun  | _ => ([], 0), order := fun | 2 => [(0, 0), (1, 1), (2, 3), (3, 7), (4, 15), (5, 31), (6, 63), (7, 127), (8, 255)] | _ => [] }
def tree_get_c1.F [Pan] (x0 : Value) (x1 : Value) (x2 : Value) (x3 : Value) (x4 : Value) (x5 : Value) (x6 : Value) (w : World) (Q : Value → World → Prop) : Prop :=
 pN Try.prog (oLoad 75 x2) w fun x14 w1 =>
 pN Try.prog (oLoad 34 x3) w1 fun x15 w2 =>
 pN Try.prog (oCall 49 [x14, x15, x0]) w2 fun x17 w3 =>
 pN Try.prog (oExt x17 0) w3 fun x18 w4 =>
 pN Try.prog (oExt x17 1) w4 fun x19 w5 =>
 pDr w5 fun w6 =>
 pL Try.prog (oLoad 3 x4) w6 fun x20 =>
 pL Try.prog (oLoad 4 x5) w6 fun x22 =>
 pL Try.prog (oLoad 3 x6) w6 fun x23 =>
 pN Try.prog (oCall 111 [x22, x23, x1]) w6 fun x25 w7 =>
 ((Sem.run Try.prog (oLoad 3 x4) w7 = .ok (.value x20) w7) ∧ True) ∧ (pA Try.prog (oBin .shl 3 (.tmp 21) (.tmp 25) x18 x25) fun x26 =>
 pA Try.prog (oBin .or 3 (.tmp 20) (.tmp 26) x20 x26) fun x27 =>
 pN Try.prog (oStore 3 x4 x27) w7 fun _ w8 =>
 (True) ∧ (Q (.tuple #[x18, x19]) w8))
noncomputable def tree_get_c1.c : Code := match Try.f123.body with | some c => c | none => .skip
theorem tree_get_c1.eq [Pan] (x0 : Value) (x1 : Value) (x2 : Value) (x3 : Value) (x4 : Value) (x5 : Value) (x6 : Value) (w : World) (Q : Value → World → Prop) : cw Try.prog tree_get_c1.H tree_get_c1.c (endQ Try.prog Try.f123.results.toList Q) (argsE [x0, x1, x2, x3, x4, x5, x6]) w = tree_get_c1.F x0 x1 x2 x3 x4 x5 x6 w Q := by kernel_rfl
theorem tree_get_c1.calls [Pan] {x0 : Value} {x1 : Value} {x2 : Value} {x3 : Value} {x4 : Value} {x5 : Value} {x6 : Value} {w : World} {Q : Value → World → Prop} (h : tree_get_c1.F x0 x1 x2 x3 x4 x5 x6 w Q) : Calls Try.prog 123 #[x0, x1, x2, x3, x4, x5, x6] w (retP Q) :=
  calls_of_cw (H := tree_get_c1.H) (c := tree_get_c1.c) (args := [x0, x1, x2, x3, x4, x5, x6]) mixed Try.func123 (by kernel_rfl) (by kernel_rfl) (Nat.le_of_ble_eq_true (by kernel_rfl)) ((tree_get_c1.eq x0 x1 x2 x3 x4 x5 x6 w Q).mpr h)

end Go.Proofs.Ytoejaggkedlfmaa

namespace Go.Proofs.Ytoejaggkedlfmaa
open Go
set_option linter.unusedSimpArgs false
set_option linter.unnecessarySimpa false
set_option linter.unusedSectionVars false
set_option linter.unusedVariables false
set_option maxRecDepth 100000

/-! rcenc_New: pith/rcenc.New; temporaries:  -/
def rcenc_New.H : Hints := { cut := fun  | _ => none, loop := fun  | _ => ([], 0), order := fun  | _ => [] }
def rcenc_New.F [Pan]  (w : World) (Q : Value → World → Prop) : Prop :=
 pN Try.prog (oBuild 133 [(1, (.int .u32 4294967295))]) w fun x1 w1 =>
 pN Try.prog (oBox 133 x1) w1 fun x2 w2 =>
 Q x2 w2
noncomputable def rcenc_New.c : Code := match Try.f18.body with | some c => c | none => .skip
theorem rcenc_New.eq [Pan]  (w : World) (Q : Value → World → Prop) : cw Try.prog rcenc_New.H rcenc_New.c (endQ Try.prog Try.f18.results.toList Q) (argsE []) w = rcenc_New.F  w Q := by kernel_rfl
theorem rcenc_New.calls [Pan]  {w : World} {Q : Value → World → Prop} (h : rcenc_New.F  w Q) : Calls Try.prog 18 #[] w (retP Q) :=
  calls_of_cw (H := rcenc_New.H) (c := rcenc_New.c) (args := []) mixed Try.func18 (by kernel_rfl) (by kernel_rfl) (Nat.le_of_ble_eq_true (by kernel_rfl)) ((rcenc_New.eq  w Q).mpr h)

/-! rcenc_Encoder_Direct: (*pith/rcenc.Encoder).Direct; temporaries: 0:e 1:v 2:n 3:e 4:v 5:n -/
def rcenc_Encoder_Direct.H : Hints := { cut := fun | 5 => some ([], 35184371564544) | 9 => some ([], 8796025913344) | _ => none, loop := fun | 4 => ([2], 35184372056068) | _ => ([], 0), order := fun | 8 => [(0, 0), (1, 1), (2, 3), (3, 7), (4, 15), (5, 31), (6, 63), (7, 127), (8, 255), (9, 511), (10, 1023), (11, 2047), (12, 4095)] | _ => [] }
def rcenc_Encoder_Direct.F [Pan] (x0 : Value) (x1 : Value) (x2 : Value) (w : World) (Q : Value → World → Prop) : Prop :=
 pN Try.prog (oBin .lss 3 (.tmp 7) (.const (.int .i64 0)) x2 (.int .i64 0)) w fun x8 w1 =>
 pGd (gB x8 false) (pN Try.prog (oMv x2) w1) w1 fun x10 w2 =>
 pGd (gB x8 false) (pN Try.prog (oBin .gtr 3 (.tmp 10) (.const (.int .i64 32)) x10 (.int .i64 32)) w2) w2 fun x11 w3 =>
 pN Try.prog (oPick x8 (.bool true) x11) w3 fun x12 w4 =>
 pIf x12
 (Q (.int .i64 7) w4)
 (pN Try.prog (oBin .sub 3 (.tmp 13) (.const (.int .i64 1)) x2 (.int .i64 1)) w4 fun x14 w5 =>
 ∃ (L4 : Value → World → Prop) (m4 : Value → World → Nat),
 L4 x14 w5 ∧
 ∀ (_k4 : Env) (n2l4 : Value) (w6 : World), L4 n2l4 w6 →
 pN Try.prog (oBin .geq 3 (.tmp 15) (.const (.int .i64 0)) n2l4 (.int .i64 0)) w6 fun x16 w7 =>
 pIf x16
 (∃ I5 : World → Prop,
 (pN Try.prog (oNil x0) w7 fun x20 w8 =>
 pN Try.prog (oFld 133 x20 1) w8 fun x21 w9 =>
 pN Try.prog (oLoad 26 x21) w9 fun x22 w10 =>
 pN Try.prog (oBin .quo 26 (.tmp 22) (.const (.int .u32 2)) x22 (.int .u32 2)) w10 fun x23 w11 =>
 pN Try.prog (oNil x0) w11 fun x24 w12 =>
 pN Try.prog (oFld 133 x24 1) w12 fun x25 w13 =>
 pN Try.prog (oStore 26 x25 x23) w13 fun _ w14 =>
 ∃ I9 : World → Prop,
 (pN Try.prog (oBin .shr 26 (.tmp 26) (.tmp 27) x1 n2l4) w14 fun x28 w15 =>
 pN Try.prog (oBin .and 26 (.tmp 28) (.const (.int .u32 1)) x28 (.int .u32 1)) w15 fun x29 w16 =>
 pN Try.prog (oBin .eql 26 (.tmp 29) (.const (.int .u32 1)) x29 (.int .u32 1)) w16 fun x30 w17 =>
 pIf x30
 (pDr w17 fun w18 =>
 pA Try.prog (oNil x0) fun x32 =>
 pA Try.prog (oFld 133 x32 0) fun x33 =>
 pL Try.prog (oLoad 131 x33) w18 fun x34 =>
 pA Try.prog (oNil x0) fun x36 =>
 pA Try.prog (oFld 133 x36 1) fun x37 =>
 pL Try.prog (oLoad 26 x37) w18 fun x38 =>
 pL Try.prog (oConv 26 131 x38) w18 fun x39 =>
 pA Try.prog (oBin .add 131 (.tmp 34) (.tmp 39) x34 x39) fun x40 =>
 pA Try.prog (oNil x0) fun x41 =>
 pA Try.prog (oFld 133 x41 0) fun x42 =>
 pN Try.prog (oStore 131 x42 x40) w18 fun _ w19 =>
 (True) ∧ (I9 w19))
 (I9 w17)) ∧
 ∀ (_j9 : Env) (w20 : World), I9 w20 →
 pN Try.prog (oCall 74 [x0]) w20 fun _ w21 =>
 I5 w21) ∧
 ∀ (_j5 : Env) (w22 : World), I5 w22 →
 pN Try.prog (oBin .sub 3 (.tmp 17) (.const (.int .i64 1)) n2l4 (.int .i64 1)) w22 fun x18 w23 =>
 (L4 x18 w23 ∧ m4 x18 w23 < m4 n2l4 w6))
 (Q (.int .i64 0) w7))
noncomputable def rcenc_Encoder_Direct.c : Code := match Try.f19.body with | some c => c | none => .skip
theorem rcenc_Encoder_Direct.eq [Pan] (x0 : Value) (x1 : Value) (x2 : Value) (w : World) (Q : Value → World → Prop) : cw Try.prog rcenc_Encoder_Direct.H rcenc_Encoder_Direct.c (endQ Try.prog Try.f19.results.toList Q) (argsE [x0, x1, x2]) w = rcenc_Encoder_Direct.F x0 x1 x2 w Q := by kernel_rfl
theorem rcenc_Encoder_Direct.calls [Pan] {x0 : Value} {x1 : Value} {x2 : Value} {w : World} {Q : Value → World → Prop} (h : rcenc_Encoder_Direct.F x0 x1 x2 w Q) : Calls Try.prog 19 #[x0, x1, x2] w (retP Q) :=
  calls_of_cw (H := rcenc_Encoder_Direct.H) (c := rcenc_Encoder_Direct.c) (args := [x0, x1, x2]) mixed Try.func19 (by kernel_rfl) (by kernel_rfl) (Nat.le_of_ble_eq_true (by kernel_rfl)) ((rcenc_Encoder_Direct.eq x0 x1 x2 w Q).mpr h)

/-! rcenc_Encoder_Bytes: (*pith/rcenc.Encoder).Bytes; temporaries: 0:e 1:e 3:f -/
def rcenc_Encoder_Bytes.H : Hints := { cut := fun  | _ => none, loop := fun | 3 => ([6], 1984) | _ => ([], 0), order := fun  | _ => [] }
def rcenc_Encoder_Bytes.F [Pan] (x0 : Value) (w : World) (Q : Value → World → Prop) : Prop :=
 pN Try.prog (oCall 36 [x0]) w fun x5 w1 =>
 ∃ (L3 : Value → World → Prop) (m3 : Value → World → Nat),
 L3 (.int .i64 0) w1 ∧
 ∀ (_k3 : Env) (v6l3 : Value) (w2 : World), L3 v6l3 w2 →
 pN Try.prog (oBin .lss 3 (.tmp 6) (.const (.int .i64 5)) v6l3 (.int .i64 5)) w2 fun x7 w3 =>
 pIf x7
 (pN Try.prog (oCall 75 [x5]) w3 fun _ w4 =>
 pN Try.prog (oBin .add 3 (.tmp 6) (.const (.int .i64 1)) v6l3 (.int .i64 1)) w4 fun x10 w5 =>
 (L3 x10 w5 ∧ m3 x10 w5 < m3 v6l3 w2))
 (pN Try.prog (oNil x5) w3 fun x12 w6 =>
 pN Try.prog (oFld 133 x12 4) w6 fun x13 w7 =>
 pN Try.prog (oLoad 29 x13) w7 fun x14 w8 =>
 Q x14 w8)
noncomputable def rcenc_Encoder_Bytes.c : Code := match Try.f20.body with | some c => c | none => .skip
theorem rcenc_Encoder_Bytes.eq [Pan] (x0 : Value) (w : World) (Q : Value → World → Prop) : cw Try.prog rcenc_Encoder_Bytes.H rcenc_Encoder_Bytes.c (endQ Try.prog Try.f20.results.toList Q) (argsE [x0]) w = rcenc_Encoder_Bytes.F x0 w Q := by kernel_rfl
theorem rcenc_Encoder_Bytes.calls [Pan] {x0 : Value} {w : World} {Q : Value → World → Prop} (h : rcenc_Encoder_Bytes.F x0 w Q) : Calls Try.prog 20 #[x0] w (retP Q) :=
  calls_of_cw (H := rcenc_Encoder_Bytes.H) (c := rcenc_Encoder_Bytes.c) (args := [x0]) mixed Try.func20 (by kernel_rfl) (by kernel_rfl) (Nat.le_of_ble_eq_true (by kernel_rfl)) ((rcenc_Encoder_Bytes.eq x0 w Q).mpr h)

/-! rcenc_Encoder_Size: (*pith/rcenc.Encoder).Size; temporaries: 0:e 1:e -/
def rcenc_Encoder_Size.H : Hints := { cut := fun  | _ => none, loop := fun  | _ => ([], 0), order := fun | 1 => [(0, 0), (1, 1), (2, 3), (3, 7), (4, 15), (5, 31), (6, 63), (7, 127), (8, 255), (9, 511), (10, 1023), (11, 2047), (12, 4095)] | _ => [] }
def rcenc_Encoder_Size.F [Pan] (x0 : Value) (w : World) (Q : Value → World → Prop) : Prop :=
 pDr w fun w1 =>
 pA Try.prog (oNil x0) fun x4 =>
 pA Try.prog (oFld 133 x4 4) fun x5 =>
 pL Try.prog (oLoad 29 x5) w1 fun x6 =>
 pA Try.prog (oBi .len #[29] 3 [false] [x6]) fun x7 =>
 pA Try.prog (oBin .add 3 (.tmp 7) (.const (.int .i64 1)) x7 (.int .i64 1)) fun x8 =>
 pA Try.prog (oNil x0) fun x10 =>
 pA Try.prog (oFld 133 x10 3) fun x11 =>
 pL Try.prog (oLoad 3 x11) w1 fun x12 =>
 pA Try.prog (oBin .add 3 (.tmp 8) (.tmp 12) x8 x12) fun x13 =>
 pA Try.prog (oBin .add 3 (.tmp 13) (.const (.int .i64 4)) x13 (.int .i64 4)) fun x14 =>
 Q x14 w1
noncomputable def rcenc_Encoder_Size.c : Code := match Try.f21.body with | some c => c | none => .skip
theorem rcenc_Encoder_Size.eq [Pan] (x0 : Value) (w : World) (Q : Value → World → Prop) : cw Try.prog rcenc_Encoder_Size.H rcenc_Encoder_Size.c (endQ Try.prog Try.f21.results.toList Q) (argsE [x0]) w = rcenc_Encoder_Size.F x0 w Q := by kernel_rfl
theorem rcenc_Encoder_Size.calls [Pan] {x0 : Value} {w : World} {Q : Value → World → Prop} (h : rcenc_Encoder_Size.F x0 w Q) : Calls Try.prog 21 #[x0] w (retP Q) :=
  calls_of_cw (H := rcenc_Encoder_Size.H) (c := rcenc_Encoder_Size.c) (args := [x0]) mixed Try.func21 (by kernel_rfl) (by kernel_rfl) (Nat.le_of_ble_eq_true (by kernel_rfl)) ((rcenc_Encoder_Size.eq x0 w Q).mpr h)

/-! rcenc_Encoder_Bit: (*pith/rcenc.Encoder).Bit; temporaries: 0:e 1:s 2:i 3:bit 4:e 5:s 6:i 7:bit 9:p 10:err 11:cut -/
def rcenc_Encoder_Bit.H : Hints := { cut := fun | 9 => some ([], 562949886312448) | _ => none, loop := fun  | _ => ([], 0), order := fun  | _ => [] }
def rcenc_Encoder_Bit.F [Pan] (x0 : Value) (x1 : Value) (x2 : Value) (x3 : Value) (w : World) (Q : Value → World → Prop) : Prop :=
 pN Try.prog (oCall 28 [x1, x2]) w fun x15 w1 =>
 pN Try.prog (oExt x15 0) w1 fun x16 w2 =>
 pN Try.prog (oExt x15 1) w2 fun x17 w3 =>
 pN Try.prog (oBin .neq 27 (.tmp 18) (.const (.int .i64 0)) x17 (.int .i64 0)) w3 fun x19 w4 =>
 pIf x19
 (Q (.int .i64 7) w4)
 (pN Try.prog (oNil x0) w4 fun x21 w5 =>
 pN Try.prog (oFld 133 x21 1) w5 fun x22 w6 =>
 pN Try.prog (oLoad 26 x22) w6 fun x23 w7 =>
 pN Try.prog (oCall 77 [x23, x16]) w7 fun x25 w8 =>
 ∃ I9 : World → Prop,
 (pN Try.prog (oBin .eql 3 (.tmp 26) (.const (.int .i64 0)) x3 (.int .i64 0)) w8 fun x27 w9 =>
 pIf x27
 (pN Try.prog (oNil x0) w9 fun x30 w10 =>
 pN Try.prog (oFld 133 x30 1) w10 fun x31 w11 =>
 pN Try.prog (oStore 26 x31 x25) w11 fun _ w12 =>
 I9 w12)
 (pN Try.prog (oNil x0) w9 fun x33 w13 =>
 pN Try.prog (oFld 133 x33 0) w13 fun x34 w14 =>
 pN Try.prog (oLoad 131 x34) w14 fun x35 w15 =>
 pN Try.prog (oConv 26 131 x25) w15 fun x37 w16 =>
 pN Try.prog (oBin .add 131 (.tmp 35) (.tmp 37) x35 x37) w16 fun x38 w17 =>
 pN Try.prog (oNil x0) w17 fun x39 w18 =>
 pN Try.prog (oFld 133 x39 0) w18 fun x40 w19 =>
 pN Try.prog (oStore 131 x40 x38) w19 fun _ w20 =>
 pN Try.prog (oNil x0) w20 fun x42 w21 =>
 pN Try.prog (oFld 133 x42 1) w21 fun x43 w22 =>
 pN Try.prog (oLoad 26 x43) w22 fun x44 w23 =>
 pN Try.prog (oBin .sub 26 (.tmp 44) (.tmp 45) x44 x25) w23 fun x46 w24 =>
 pN Try.prog (oNil x0) w24 fun x47 w25 =>
 pN Try.prog (oFld 133 x47 1) w25 fun x48 w26 =>
 pN Try.prog (oStore 26 x48 x46) w26 fun _ w27 =>
 I9 w27)) ∧
 ∀ (_j9 : Env) (w28 : World), I9 w28 →
 pN Try.prog (oCall 74 [x0]) w28 fun _ w29 =>
 pN Try.prog (oCall 62 [x1, x2, x3]) w29 fun x54 w30 =>
 Q x54 w30)
noncomputable def rcenc_Encoder_Bit.c : Code := match Try.f27.body with | some c => c | none => .skip
theorem rcenc_Encoder_Bit.eq [Pan] (x0 : Value) (x1 : Value) (x2 : Value) (x3 : Value) (w : World) (Q : Value → World → Prop) : cw Try.prog rcenc_Encoder_Bit.H rcenc_Encoder_Bit.c (endQ Try.prog Try.f27.results.toList Q) (argsE [x0, x1, x2, x3]) w = rcenc_Encoder_Bit.F x0 x1 x2 x3 w Q := by kernel_rfl
theorem rcenc_Encoder_Bit.calls [Pan] {x0 : Value} {x1 : Value} {x2 : Value} {x3 : Value} {w : World} {Q : Value → World → Prop} (h : rcenc_Encoder_Bit.F x0 x1 x2 x3 w Q) : Calls Try.prog 27 #[x0, x1, x2, x3] w (retP Q) :=
  calls_of_cw (H := rcenc_Encoder_Bit.H) (c := rcenc_Encoder_Bit.c) (args := [x0, x1, x2, x3]) mixed Try.func27 (by kernel_rfl) (by kernel_rfl) (Nat.le_of_ble_eq_true (by kernel_rfl)) ((rcenc_Encoder_Bit.eq x0 x1 x2 x3 w Q).mpr h)

/-! rcenc_Encoder_Fork: (*pith/rcenc.Encoder).Fork; temporaries: 0:e 1:e 3:f -/
def rcenc_Encoder_Fork.H : Hints := { cut := fun  | _ => none, loop := fun  | _ => ([], 0), order := fun | 2 => [(0, 0), (1, 1), (2, 3), (3, 7), (4, 15), (5, 31), (6, 63), (7, 127), (8, 255), (9, 511), (10, 1023), (12, 2047), (13, 6143), (14, 14335), (15, 30719), (11, 63487), (16, 65535), (17, 131071), (18, 262143)] | _ => [] }
def rcenc_Encoder_Fork.F [Pan] (x0 : Value) (w : World) (Q : Value → World → Prop) : Prop :=
 pN Try.prog (oNil x0) w fun x5 w1 =>
 pN Try.prog (oLoad 133 x5) w1 fun x6 w2 =>
 pN Try.prog (oAlloc 133) w2 fun x3 w3 =>
 pN Try.prog (oStore 133 x3 x6) w3 fun _ w4 =>
 pDr w4 fun w5 =>
 pA Try.prog (oNil x0) fun x8 =>
 pA Try.prog (oFld 133 x8 4) fun x9 =>
 pL Try.prog (oLoad 29 x9) w5 fun x10 =>
 pA Try.prog (oBi .len #[29] 3 [false] [x10]) fun x11 =>
 pA Try.prog (oNil x0) fun x13 =>
 pA Try.prog (oFld 133 x13 3) fun x14 =>
 pL Try.prog (oLoad 3 x14) w5 fun x15 =>
 pA Try.prog (oBin .add 3 (.tmp 11) (.tmp 15) x11 x15) fun x16 =>
 pA Try.prog (oBin .add 3 (.tmp 16) (.const (.int .i64 8)) x16 (.int .i64 8)) fun x17 =>
 pA Try.prog (oNil x0) fun x20 =>
 pA Try.prog (oFld 133 x20 4) fun x21 =>
 pL Try.prog (oLoad 29 x21) w5 fun x22 =>
 pN Try.prog (oMk 29 (.int .i64 0) x17) w5 fun x18 w6 =>
 ((Sem.run Try.prog (oLoad 29 x21) w6 = .ok (.value x22) w6) ∧ True) ∧ (pN Try.prog (oBi .append #[29, 29] 29 [false, false] [x18, x22]) w6 fun x23 w7 =>
 (True) ∧ (pA Try.prog (oFld 133 x3 4) fun x24 =>
 pN Try.prog (oStore 29 x24 x23) w7 fun _ w8 =>
 (True) ∧ (Q x3 w8)))
noncomputable def rcenc_Encoder_Fork.c : Code := match Try.f36.body with | some c => c | none => .skip
theorem rcenc_Encoder_Fork.eq [Pan] (x0 : Value) (w : World) (Q : Value → World → Prop) : cw Try.prog rcenc_Encoder_Fork.H rcenc_Encoder_Fork.c (endQ Try.prog Try.f36.results.toList Q) (argsE [x0]) w = rcenc_Encoder_Fork.F x0 w Q := by kernel_rfl
theorem rcenc_Encoder_Fork.calls [Pan] {x0 : Value} {w : World} {Q : Value → World → Prop} (h : rcenc_Encoder_Fork.F x0 w Q) : Calls Try.prog 36 #[x0] w (retP Q) :=
  calls_of_cw (H := rcenc_Encoder_Fork.H) (c := rcenc_Encoder_Fork.c) (args := [x0]) mixed Try.func36 (by kernel_rfl) (by kernel_rfl) (Nat.le_of_ble_eq_true (by kernel_rfl)) ((rcenc_Encoder_Fork.eq x0 w Q).mpr h)

/-! rcenc_Encoder_widen: (*pith/rcenc.Encoder).widen; temporaries: 0:e 1:e -/
def rcenc_Encoder_widen.H : Hints := { cut := fun  | _ => none, loop := fun | 0 => ([], 65532) | _ => ([], 0), order := fun  | _ => [] }
def rcenc_Encoder_widen.F [Pan] (x0 : Value) (w : World) (Q : Value → World → Prop) : Prop :=
 ∃ (L0 : World → Prop) (m0 : World → Nat),
 L0 w ∧
 ∀ (_k0 : Env) (w1 : World), L0 w1 →
 pN Try.prog (oNil x0) w1 fun x3 w2 =>
 pN Try.prog (oFld 133 x3 1) w2 fun x4 w3 =>
 pN Try.prog (oLoad 26 x4) w3 fun x5 w4 =>
 pN Try.prog (oBin .lss 26 (.tmp 5) (.const (.int .u32 16777216)) x5 (.int .u32 16777216)) w4 fun x6 w5 =>
 pIf x6
 (pN Try.prog (oNil x0) w5 fun x8 w6 =>
 pN Try.prog (oFld 133 x8 1) w6 fun x9 w7 =>
 pN Try.prog (oLoad 26 x9) w7 fun x10 w8 =>
 pN Try.prog (oBin .shl 26 (.tmp 10) (.const (.int .u64 8)) x10 (.int .u64 8)) w8 fun x11 w9 =>
 pN Try.prog (oNil x0) w9 fun x12 w10 =>
 pN Try.prog (oFld 133 x12 1) w10 fun x13 w11 =>
 pN Try.prog (oStore 26 x13 x11) w11 fun _ w12 =>
 pN Try.prog (oCall 75 [x0]) w12 fun _ w13 =>
 (L0 w13 ∧ m0 w13 < m0 w1))
 (Q (.tuple #[]) w5)
noncomputable def rcenc_Encoder_widen.c : Code := match Try.f74.body with | some c => c | none => .skip
theorem rcenc_Encoder_widen.eq [Pan] (x0 : Value) (w : World) (Q : Value → World → Prop) : cw Try.prog rcenc_Encoder_widen.H rcenc_Encoder_widen.c (endQ Try.prog Try.f74.results.toList Q) (argsE [x0]) w = rcenc_Encoder_widen.F x0 w Q := by kernel_rfl
theorem rcenc_Encoder_widen.calls [Pan] {x0 : Value} {w : World} {Q : Value → World → Prop} (h : rcenc_Encoder_widen.F x0 w Q) : Calls Try.prog 74 #[x0] w (retP Q) :=
  calls_of_cw (H := rcenc_Encoder_widen.H) (c := rcenc_Encoder_widen.c) (args := [x0]) mixed Try.func74 (by kernel_rfl) (by kernel_rfl) (Nat.le_of_ble_eq_true (by kernel_rfl)) ((rcenc_Encoder_widen.eq x0 w Q).mpr h)

/-! rcenc_Encoder_shift: (*pith/rcenc.Encoder).shift; temporaries: 0:e 1:e 2:carry -/
def rcenc_Encoder_shift.H : Hints := { cut := fun | 8 => some ([], 37778931862957161709564) | _ => none, loop := fun | 3 => ([], 576460683583946752) | _ => ([], 0), order := fun | 2 => [(0, 0), (1, 1), (2, 3), (3, 7), (4, 15), (5, 31), (6, 63), (7, 127), (8, 255), (9, 511), (10, 1023), (11, 2047), (12, 4095), (13, 8191), (14, 16383), (15, 32767)] | _ => [] }
def rcenc_Encoder_shift.F [Pan] (x0 : Value) (w : World) (Q : Value → World → Prop) : Prop :=
 ∃ I8 : World → Prop,
 (pN Try.prog (oNil x0) w fun x4 w1 =>
 pN Try.prog (oFld 133 x4 0) w1 fun x5 w2 =>
 pN Try.prog (oLoad 131 x5) w2 fun x6 w3 =>
 pN Try.prog (oBin .lss 131 (.tmp 6) (.const (.int .u64 4278190080)) x6 (.int .u64 4278190080)) w3 fun x7 w4 =>
 pGd (gB x7 false) (pN Try.prog (oMv x0) w4) w4 fun x9 w5 =>
 pGd (gB x7 false) (pN Try.prog (oNil x9) w5) w5 fun x10 w6 =>
 pGd (gB x7 false) (pN Try.prog (oFld 133 x10 0) w6) w6 fun x11 w7 =>
 pGd (gB x7 false) (pN Try.prog (oLoad 131 x11) w7) w7 fun x12 w8 =>
 pGd (gB x7 false) (pN Try.prog (oBin .gtr 131 (.tmp 12) (.const (.int .u64 4294967295)) x12 (.int .u64 4294967295)) w8) w8 fun x13 w9 =>
 pN Try.prog (oPick x7 (.bool true) x13) w9 fun x14 w10 =>
 pIf x14
 (pN Try.prog (oNil x0) w10 fun x16 w11 =>
 pN Try.prog (oFld 133 x16 0) w11 fun x17 w12 =>
 pN Try.prog (oLoad 131 x17) w12 fun x18 w13 =>
 pN Try.prog (oBin .shr 131 (.tmp 18) (.const (.int .u64 32)) x18 (.int .u64 32)) w13 fun x19 w14 =>
 pN Try.prog (oConv 131 5 x19) w14 fun x20 w15 =>
 pDr w15 fun w16 =>
 pA Try.prog (oNil x0) fun x23 =>
 pA Try.prog (oFld 133 x23 4) fun x24 =>
 pL Try.prog (oLoad 29 x24) w16 fun x25 =>
 pA Try.prog (oNil x0) fun x27 =>
 pA Try.prog (oFld 133 x27 2) fun x28 =>
 pL Try.prog (oLoad 5 x28) w16 fun x29 =>
 pA Try.prog (oBin .add 5 (.tmp 29) (.tmp 30) x29 x20) fun x31 =>
 pN Try.prog (oBs 29 1 [(0, x31)]) w16 fun x32 w17 =>
 ((Sem.run Try.prog (oLoad 29 x24) w17 = .ok (.value x25) w17) ∧ True) ∧ (pN Try.prog (oBi .append #[29, 29] 29 [false, false] [x25, x32]) w17 fun x33 w18 =>
 (True) ∧ (pA Try.prog (oNil x0) fun x34 =>
 pA Try.prog (oFld 133 x34 4) fun x35 =>
 pN Try.prog (oStore 29 x35 x33) w18 fun _ w19 =>
 (True) ∧ (∃ (L3 : World → Prop) (m3 : World → Nat),
 L3 w19 ∧
 ∀ (_k3 : Env) (w20 : World), L3 w20 →
 pN Try.prog (oNil x0) w20 fun x37 w21 =>
 pN Try.prog (oFld 133 x37 3) w21 fun x38 w22 =>
 pN Try.prog (oLoad 3 x38) w22 fun x39 w23 =>
 pN Try.prog (oBin .gtr 3 (.tmp 39) (.const (.int .i64 0)) x39 (.int .i64 0)) w23 fun x40 w24 =>
 pIf x40
 (pN Try.prog (oNil x0) w24 fun x50 w25 =>
 pN Try.prog (oFld 133 x50 4) w25 fun x51 w26 =>
 pN Try.prog (oLoad 29 x51) w26 fun x52 w27 =>
 pN Try.prog (oBin .add 5 (.const (.int .u8 255)) (.tmp 53) (bv 255) x20) w27 fun x54 w28 =>
 pN Try.prog (oBs 29 1 [(0, x54)]) w28 fun x55 w29 =>
 pN Try.prog (oBi .append #[29, 29] 29 [false, false] [x52, x55]) w29 fun x56 w30 =>
 pN Try.prog (oNil x0) w30 fun x57 w31 =>
 pN Try.prog (oFld 133 x57 4) w31 fun x58 w32 =>
 pN Try.prog (oStore 29 x58 x56) w32 fun _ w33 =>
 pN Try.prog (oNil x0) w33 fun x42 w34 =>
 pN Try.prog (oFld 133 x42 3) w34 fun x43 w35 =>
 pN Try.prog (oLoad 3 x43) w35 fun x44 w36 =>
 pN Try.prog (oBin .sub 3 (.tmp 44) (.const (.int .i64 1)) x44 (.int .i64 1)) w36 fun x45 w37 =>
 pN Try.prog (oNil x0) w37 fun x46 w38 =>
 pN Try.prog (oFld 133 x46 3) w38 fun x47 w39 =>
 pN Try.prog (oStore 3 x47 x45) w39 fun _ w40 =>
 (L3 w40 ∧ m3 w40 < m3 w20))
 (pN Try.prog (oNil x0) w24 fun x61 w41 =>
 pN Try.prog (oFld 133 x61 0) w41 fun x62 w42 =>
 pN Try.prog (oLoad 131 x62) w42 fun x63 w43 =>
 pN Try.prog (oBin .shr 131 (.tmp 63) (.const (.int .u64 24)) x63 (.int .u64 24)) w43 fun x64 w44 =>
 pN Try.prog (oConv 131 5 x64) w44 fun x65 w45 =>
 pN Try.prog (oNil x0) w45 fun x66 w46 =>
 pN Try.prog (oFld 133 x66 2) w46 fun x67 w47 =>
 pN Try.prog (oStore 5 x67 x65) w47 fun _ w48 =>
 I8 w48)))))
 (pN Try.prog (oNil x0) w10 fun x69 w49 =>
 pN Try.prog (oFld 133 x69 3) w49 fun x70 w50 =>
 pN Try.prog (oLoad 3 x70) w50 fun x71 w51 =>
 pN Try.prog (oBin .add 3 (.tmp 71) (.const (.int .i64 1)) x71 (.int .i64 1)) w51 fun x72 w52 =>
 pN Try.prog (oNil x0) w52 fun x73 w53 =>
 pN Try.prog (oFld 133 x73 3) w53 fun x74 w54 =>
 pN Try.prog (oStore 3 x74 x72) w54 fun _ w55 =>
 I8 w55)) ∧
 ∀ (_j8 : Env) (w56 : World), I8 w56 →
 pN Try.prog (oNil x0) w56 fun x77 w57 =>
 pN Try.prog (oFld 133 x77 0) w57 fun x78 w58 =>
 pN Try.prog (oLoad 131 x78) w58 fun x79 w59 =>
 pN Try.prog (oBin .and 131 (.tmp 79) (.const (.int .u64 16777215)) x79 (.int .u64 16777215)) w59 fun x80 w60 =>
 pN Try.prog (oBin .shl 131 (.tmp 80) (.const (.int .u64 8)) x80 (.int .u64 8)) w60 fun x81 w61 =>
 pN Try.prog (oNil x0) w61 fun x82 w62 =>
 pN Try.prog (oFld 133 x82 0) w62 fun x83 w63 =>
 pN Try.prog (oStore 131 x83 x81) w63 fun _ w64 =>
 Q (.tuple #[]) w64
noncomputable def rcenc_Encoder_shift.c : Code := match Try.f75.body with | some c => c | none => .skip
theorem rcenc_Encoder_shift.eq [Pan] (x0 : Value) (w : World) (Q : Value → World → Prop) : cw Try.prog rcenc_Encoder_shift.H rcenc_Encoder_shift.c (endQ Try.prog Try.f75.results.toList Q) (argsE [x0]) w = rcenc_Encoder_shift.F x0 w Q := by kernel_rfl
theorem rcenc_Encoder_shift.calls [Pan] {x0 : Value} {w : World} {Q : Value → World → Prop} (h : rcenc_Encoder_shift.F x0 w Q) : Calls Try.prog 75 #[x0] w (retP Q) :=
  calls_of_cw (H := rcenc_Encoder_shift.H) (c := rcenc_Encoder_shift.c) (args := [x0]) mixed Try.func75 (by kernel_rfl) (by kernel_rfl) (Nat.le_of_ble_eq_true (by kernel_rfl)) ((rcenc_Encoder_shift.eq x0 w Q).mpr h)

end Go.Proofs.Ytoejaggkedlfmaa

namespace Go.Proofs.Ytoejaggkedlfmaa
open Go
set_option linter.unusedSimpArgs false
set_option linter.unnecessarySimpa false
set_option linter.unusedSectionVars false
set_option linter.unusedVariables false
set_option maxRecDepth 100000

/-! prob_Next: pith/prob.Next; temporaries: 0:p 1:bit 2:p 3:bit -/
def prob_Next.H : Hints := { cut := fun  | _ => none, loop := fun  | _ => ([], 0), order := fun  | _ => [] }
def prob_Next.F [Pan] (x0 : Value) (x1 : Value) (w : World) (Q : Value → World → Prop) : Prop :=
 pN Try.prog (oCall 76 [x0]) w fun x6 w1 =>
 pN Try.prog (oBin .eql 3 (.tmp 7) (.const (.int .i64 0)) x1 (.int .i64 0)) w1 fun x8 w2 =>
 pIf x8
 (pN Try.prog (oBin .sub 3 (.const (.int .i64 2048)) (.tmp 10) (.int .i64 2048) x6) w2 fun x11 w3 =>
 pN Try.prog (oBin .shr 3 (.tmp 11) (.const (.int .u64 5)) x11 (.int .u64 5)) w3 fun x12 w4 =>
 pN Try.prog (oBin .add 3 (.tmp 9) (.tmp 12) x6 x12) w4 fun x13 w5 =>
 Q x13 w5)
 (pN Try.prog (oBin .shr 3 (.tmp 15) (.const (.int .u64 5)) x6 (.int .u64 5)) w2 fun x16 w6 =>
 pN Try.prog (oBin .sub 3 (.tmp 14) (.tmp 16) x6 x16) w6 fun x17 w7 =>
 Q x17 w7)
noncomputable def prob_Next.c : Code := match Try.f25.body with | some c => c | none => .skip
theorem prob_Next.eq [Pan] (x0 : Value) (x1 : Value) (w : World) (Q : Value → World → Prop) : cw Try.prog prob_Next.H prob_Next.c (endQ Try.prog Try.f25.results.toList Q) (argsE [x0, x1]) w = prob_Next.F x0 x1 w Q := by kernel_rfl
theorem prob_Next.calls [Pan] {x0 : Value} {x1 : Value} {w : World} {Q : Value → World → Prop} (h : prob_Next.F x0 x1 w Q) : Calls Try.prog 25 #[x0, x1] w (retP Q) :=
  calls_of_cw (H := prob_Next.H) (c := prob_Next.c) (args := [x0, x1]) mixed Try.func25 (by kernel_rfl) (by kernel_rfl) (Nat.le_of_ble_eq_true (by kernel_rfl)) ((prob_Next.eq x0 x1 w Q).mpr h)

/-! prob_Set_At: (*pith/prob.Set).At; temporaries: 0:s 1:i 2:s 3:i 6:e -/
def prob_Set_At.H : Hints := { cut := fun  | _ => none, loop := fun  | _ => ([], 0), order := fun  | _ => [] }
def prob_Set_At.F [Pan] (x0 : Value) (x1 : Value) (w : World) (Q : Value → World → Prop) : Prop :=
 pN Try.prog (oCall 78 [x0, x1]) w fun x9 w1 =>
 pN Try.prog (oBin .neq 27 (.tmp 10) (.const (.int .i64 0)) x9 (.int .i64 0)) w1 fun x11 w2 =>
 pIf x11
 (Q (.tuple #[(.int .i64 0), x9]) w2)
 (pN Try.prog (oNil x0) w2 fun x14 w3 =>
 pN Try.prog (oFld 137 x14 0) w3 fun x15 w4 =>
 pN Try.prog (oLoad 23 x15) w4 fun x16 w5 =>
 pN Try.prog (oIdx 23 x16 x1) w5 fun x18 w6 =>
 pN Try.prog (oLoad 3 x18) w6 fun x19 w7 =>
 Q (.tuple #[x19, (.int .i64 0)]) w7)
noncomputable def prob_Set_At.c : Code := match Try.f28.body with | some c => c | none => .skip
theorem prob_Set_At.eq [Pan] (x0 : Value) (x1 : Value) (w : World) (Q : Value → World → Prop) : cw Try.prog prob_Set_At.H prob_Set_At.c (endQ Try.prog Try.f28.results.toList Q) (argsE [x0, x1]) w = prob_Set_At.F x0 x1 w Q := by kernel_rfl
theorem prob_Set_At.calls [Pan] {x0 : Value} {x1 : Value} {w : World} {Q : Value → World → Prop} (h : prob_Set_At.F x0 x1 w Q) : Calls Try.prog 28 #[x0, x1] w (retP Q) :=
  calls_of_cw (H := prob_Set_At.H) (c := prob_Set_At.c) (args := [x0, x1]) mixed Try.func28 (by kernel_rfl) (by kernel_rfl) (Nat.le_of_ble_eq_true (by kernel_rfl)) ((prob_Set_At.eq x0 x1 w Q).mpr h)

/-! prob_Set_Fork: (*pith/prob.Set).Fork; temporaries: 0:s 1:s -/
def prob_Set_Fork.H : Hints := { cut := fun  | _ => none, loop := fun  | _ => ([], 0), order := fun  | _ => [] }
def prob_Set_Fork.F [Pan] (x0 : Value) (w : World) (Q : Value → World → Prop) : Prop :=
 pN Try.prog (oNil x0) w fun x4 w1 =>
 pN Try.prog (oFld 137 x4 0) w1 fun x5 w2 =>
 pN Try.prog (oLoad 23 x5) w2 fun x6 w3 =>
 pN Try.prog (oBi .append #[23, 23] 23 [true, false] [(.slice none 0 0), x6]) w3 fun x7 w4 =>
 pN Try.prog (oBuild 137 [(0, x7)]) w4 fun x8 w5 =>
 pN Try.prog (oBox 137 x8) w5 fun x9 w6 =>
 Q x9 w6
noncomputable def prob_Set_Fork.c : Code := match Try.f40.body with | some c => c | none => .skip
theorem prob_Set_Fork.eq [Pan] (x0 : Value) (w : World) (Q : Value → World → Prop) : cw Try.prog prob_Set_Fork.H prob_Set_Fork.c (endQ Try.prog Try.f40.results.toList Q) (argsE [x0]) w = prob_Set_Fork.F x0 w Q := by kernel_rfl
theorem prob_Set_Fork.calls [Pan] {x0 : Value} {w : World} {Q : Value → World → Prop} (h : prob_Set_Fork.F x0 w Q) : Calls Try.prog 40 #[x0] w (retP Q) :=
  calls_of_cw (H := prob_Set_Fork.H) (c := prob_Set_Fork.c) (args := [x0]) mixed Try.func40 (by kernel_rfl) (by kernel_rfl) (Nat.le_of_ble_eq_true (by kernel_rfl)) ((prob_Set_Fork.eq x0 w Q).mpr h)

/-! prob_New: pith/prob.New; temporaries: 0:n 1:n 4:s -/
def prob_New.H : Hints := { cut := fun  | _ => none, loop := fun  | _ => ([], 0), order := fun  | _ => [] }
def prob_New.F [Pan] (x0 : Value) (w : World) (Q : Value → World → Prop) : Prop :=
 pN Try.prog (oBin .lss 3 (.tmp 5) (.const (.int .i64 0)) x0 (.int .i64 0)) w fun x6 w1 =>
 pGd (gB x6 false) (pN Try.prog (oMv x0) w1) w1 fun x8 w2 =>
 pGd (gB x6 false) (pN Try.prog (oBin .gtr 3 (.tmp 8) (.const (.int .i64 1048576)) x8 (.int .i64 1048576)) w2) w2 fun x9 w3 =>
 pN Try.prog (oPick x6 (.bool true) x9) w3 fun x10 w4 =>
 pIf x10
 (Q (.tuple #[(.pointer none), (.int .i64 7)]) w4)
 (pN Try.prog (oMk 23 x0 x0) w4 fun x12 w5 =>
 pN Try.prog (oBuild 137 [(0, x12)]) w5 fun x13 w6 =>
 pN Try.prog (oBox 137 x13) w6 fun x14 w7 =>
 pN Try.prog (oCall 87 [x14]) w7 fun _ w8 =>
 Q (.tuple #[x14, (.int .i64 0)]) w8)
noncomputable def prob_New.c : Code := match Try.f45.body with | some c => c | none => .skip
theorem prob_New.eq [Pan] (x0 : Value) (w : World) (Q : Value → World → Prop) : cw Try.prog prob_New.H prob_New.c (endQ Try.prog Try.f45.results.toList Q) (argsE [x0]) w = prob_New.F x0 w Q := by kernel_rfl
theorem prob_New.calls [Pan] {x0 : Value} {w : World} {Q : Value → World → Prop} (h : prob_New.F x0 w Q) : Calls Try.prog 45 #[x0] w (retP Q) :=
  calls_of_cw (H := prob_New.H) (c := prob_New.c) (args := [x0]) mixed Try.func45 (by kernel_rfl) (by kernel_rfl) (Nat.le_of_ble_eq_true (by kernel_rfl)) ((prob_New.eq x0 w Q).mpr h)

/-! prob_Set_Turn: (*pith/prob.Set).Turn; temporaries: 0:s 1:i 2:bit 3:s 4:i 5:bit 7:e -/
def prob_Set_Turn.H : Hints := { cut := fun | 4 => some ([], 268433408) | _ => none, loop := fun  | _ => ([], 0), order := fun | 3 => [(0, 0), (1, 1), (2, 3), (3, 7), (4, 15), (5, 31), (6, 63), (7, 127), (8, 255), (9, 511), (10, 1023), (11, 2047), (12, 4095), (13, 8191), (14, 16383), (15, 32767)] | _ => [] }
def prob_Set_Turn.F [Pan] (x0 : Value) (x1 : Value) (x2 : Value) (w : World) (Q : Value → World → Prop) : Prop :=
 pN Try.prog (oCall 78 [x0, x1]) w fun x10 w1 =>
 ∃ I4 : World → Prop,
 (pN Try.prog (oBin .eql 27 (.tmp 11) (.const (.int .i64 0)) x10 (.int .i64 0)) w1 fun x12 w2 =>
 pIf x12
 (pDr w2 fun w3 =>
 pA Try.prog (oNil x0) fun x14 =>
 pA Try.prog (oFld 137 x14 0) fun x15 =>
 pL Try.prog (oLoad 23 x15) w3 fun x16 =>
 pA Try.prog (oNil x0) fun x19 =>
 pA Try.prog (oFld 137 x19 0) fun x20 =>
 pL Try.prog (oLoad 23 x20) w3 fun x21 =>
 pA Try.prog (oIdx 23 x21 x1) fun x23 =>
 pL Try.prog (oLoad 3 x23) w3 fun x24 =>
 pN Try.prog (oCall 25 [x24, x2]) w3 fun x26 w4 =>
 ((Sem.run Try.prog (oLoad 23 x15) w4 = .ok (.value x16) w4) ∧ True) ∧ (pA Try.prog (oIdx 23 x16 x1) fun x27 =>
 pN Try.prog (oStore 3 x27 x26) w4 fun _ w5 =>
 (True) ∧ (I4 w5)))
 (I4 w2)) ∧
 ∀ (_j4 : Env) (w6 : World), I4 w6 →
 Q x10 w6
noncomputable def prob_Set_Turn.c : Code := match Try.f62.body with | some c => c | none => .skip
theorem prob_Set_Turn.eq [Pan] (x0 : Value) (x1 : Value) (x2 : Value) (w : World) (Q : Value → World → Prop) : cw Try.prog prob_Set_Turn.H prob_Set_Turn.c (endQ Try.prog Try.f62.results.toList Q) (argsE [x0, x1, x2]) w = prob_Set_Turn.F x0 x1 x2 w Q := by kernel_rfl
theorem prob_Set_Turn.calls [Pan] {x0 : Value} {x1 : Value} {x2 : Value} {w : World} {Q : Value → World → Prop} (h : prob_Set_Turn.F x0 x1 x2 w Q) : Calls Try.prog 62 #[x0, x1, x2] w (retP Q) :=
  calls_of_cw (H := prob_Set_Turn.H) (c := prob_Set_Turn.c) (args := [x0, x1, x2]) mixed Try.func62 (by kernel_rfl) (by kernel_rfl) (Nat.le_of_ble_eq_true (by kernel_rfl)) ((prob_Set_Turn.eq x0 x1 x2 w Q).mpr h)

/-! prob_Set_Len: (*pith/prob.Set).Len; temporaries: 0:s 1:s -/
def prob_Set_Len.H : Hints := { cut := fun  | _ => none, loop := fun  | _ => ([], 0), order := fun  | _ => [] }
def prob_Set_Len.F [Pan] (x0 : Value) (w : World) (Q : Value → World → Prop) : Prop :=
 pN Try.prog (oNil x0) w fun x4 w1 =>
 pN Try.prog (oFld 137 x4 0) w1 fun x5 w2 =>
 pN Try.prog (oLoad 23 x5) w2 fun x6 w3 =>
 pN Try.prog (oBi .len #[23] 3 [false] [x6]) w3 fun x7 w4 =>
 Q x7 w4
noncomputable def prob_Set_Len.c : Code := match Try.f63.body with | some c => c | none => .skip
theorem prob_Set_Len.eq [Pan] (x0 : Value) (w : World) (Q : Value → World → Prop) : cw Try.prog prob_Set_Len.H prob_Set_Len.c (endQ Try.prog Try.f63.results.toList Q) (argsE [x0]) w = prob_Set_Len.F x0 w Q := by kernel_rfl
theorem prob_Set_Len.calls [Pan] {x0 : Value} {w : World} {Q : Value → World → Prop} (h : prob_Set_Len.F x0 w Q) : Calls Try.prog 63 #[x0] w (retP Q) :=
  calls_of_cw (H := prob_Set_Len.H) (c := prob_Set_Len.c) (args := [x0]) mixed Try.func63 (by kernel_rfl) (by kernel_rfl) (Nat.le_of_ble_eq_true (by kernel_rfl)) ((prob_Set_Len.eq x0 w Q).mpr h)

/-! prob_taken: pith/prob.taken; temporaries: 0:p 1:p -/
def prob_taken.H : Hints := { cut := fun  | _ => none, loop := fun  | _ => ([], 0), order := fun  | _ => [] }
def prob_taken.F [Pan] (x0 : Value) (w : World) (Q : Value → World → Prop) : Prop :=
 pN Try.prog (oBi .min #[3, 3] 3 [false, true] [x0, (.int .i64 2047)]) w fun x4 w1 =>
 pN Try.prog (oBi .max #[3, 3] 3 [true, false] [(.int .i64 0), x4]) w1 fun x5 w2 =>
 Q x5 w2
noncomputable def prob_taken.c : Code := match Try.f76.body with | some c => c | none => .skip
theorem prob_taken.eq [Pan] (x0 : Value) (w : World) (Q : Value → World → Prop) : cw Try.prog prob_taken.H prob_taken.c (endQ Try.prog Try.f76.results.toList Q) (argsE [x0]) w = prob_taken.F x0 w Q := by kernel_rfl
theorem prob_taken.calls [Pan] {x0 : Value} {w : World} {Q : Value → World → Prop} (h : prob_taken.F x0 w Q) : Calls Try.prog 76 #[x0] w (retP Q) :=
  calls_of_cw (H := prob_taken.H) (c := prob_taken.c) (args := [x0]) mixed Try.func76 (by kernel_rfl) (by kernel_rfl) (Nat.le_of_ble_eq_true (by kernel_rfl)) ((prob_taken.eq x0 w Q).mpr h)

/-! prob_Bound: pith/prob.Bound; temporaries: 0:rng 1:p 2:rng 3:p -/
def prob_Bound.H : Hints := { cut := fun  | _ => none, loop := fun  | _ => ([], 0), order := fun  | _ => [] }
def prob_Bound.F [Pan] (x0 : Value) (x1 : Value) (w : World) (Q : Value → World → Prop) : Prop :=
 pN Try.prog (oBin .shr 26 (.tmp 5) (.const (.int .u64 11)) x0 (.int .u64 11)) w fun x6 w1 =>
 pN Try.prog (oCall 76 [x1]) w1 fun x8 w2 =>
 pN Try.prog (oConv 3 26 x8) w2 fun x9 w3 =>
 pN Try.prog (oBin .mul 26 (.tmp 6) (.tmp 9) x6 x9) w3 fun x10 w4 =>
 Q x10 w4
noncomputable def prob_Bound.c : Code := match Try.f77.body with | some c => c | none => .skip
theorem prob_Bound.eq [Pan] (x0 : Value) (x1 : Value) (w : World) (Q : Value → World → Prop) : cw Try.prog prob_Bound.H prob_Bound.c (endQ Try.prog Try.f77.results.toList Q) (argsE [x0, x1]) w = prob_Bound.F x0 x1 w Q := by kernel_rfl
theorem prob_Bound.calls [Pan] {x0 : Value} {x1 : Value} {w : World} {Q : Value → World → Prop} (h : prob_Bound.F x0 x1 w Q) : Calls Try.prog 77 #[x0, x1] w (retP Q) :=
  calls_of_cw (H := prob_Bound.H) (c := prob_Bound.c) (args := [x0, x1]) mixed Try.func77 (by kernel_rfl) (by kernel_rfl) (Nat.le_of_ble_eq_true (by kernel_rfl)) ((prob_Bound.eq x0 x1 w Q).mpr h)

/-! prob_Set_has: (*pith/prob.Set).has; temporaries: 0:s 1:i 2:s 3:i -/
def prob_Set_has.H : Hints := { cut := fun  | _ => none, loop := fun  | _ => ([], 0), order := fun  | _ => [] }
def prob_Set_has.F [Pan] (x0 : Value) (x1 : Value) (w : World) (Q : Value → World → Prop) : Prop :=
 pN Try.prog (oBin .lss 3 (.tmp 5) (.const (.int .i64 0)) x1 (.int .i64 0)) w fun x6 w1 =>
 pGd (gB x6 false) (pN Try.prog (oMv x1) w1) w1 fun x8 w2 =>
 pGd (gB x6 false) (pN Try.prog (oMv x0) w2) w2 fun x9 w3 =>
 pGd (gB x6 false) (pN Try.prog (oNil x9) w3) w3 fun x10 w4 =>
 pGd (gB x6 false) (pN Try.prog (oFld 137 x10 0) w4) w4 fun x11 w5 =>
 pGd (gB x6 false) (pN Try.prog (oLoad 23 x11) w5) w5 fun x12 w6 =>
 pGd (gB x6 false) (pN Try.prog (oBi .len #[23] 3 [false] [x12]) w6) w6 fun x13 w7 =>
 pGd (gB x6 false) (pN Try.prog (oBin .geq 3 (.tmp 8) (.tmp 13) x8 x13) w7) w7 fun x14 w8 =>
 pN Try.prog (oPick x6 (.bool true) x14) w8 fun x15 w9 =>
 pIf x15
 (Q (.int .i64 7) w9)
 (Q (.int .i64 0) w9)
noncomputable def prob_Set_has.c : Code := match Try.f78.body with | some c => c | none => .skip
theorem prob_Set_has.eq [Pan] (x0 : Value) (x1 : Value) (w : World) (Q : Value → World → Prop) : cw Try.prog prob_Set_has.H prob_Set_has.c (endQ Try.prog Try.f78.results.toList Q) (argsE [x0, x1]) w = prob_Set_has.F x0 x1 w Q := by kernel_rfl
theorem prob_Set_has.calls [Pan] {x0 : Value} {x1 : Value} {w : World} {Q : Value → World → Prop} (h : prob_Set_has.F x0 x1 w Q) : Calls Try.prog 78 #[x0, x1] w (retP Q) :=
  calls_of_cw (H := prob_Set_has.H) (c := prob_Set_has.c) (args := [x0, x1]) mixed Try.func78 (by kernel_rfl) (by kernel_rfl) (Nat.le_of_ble_eq_true (by kernel_rfl)) ((prob_Set_has.eq x0 x1 w Q).mpr h)

/-! prob_Set_Reset: (*pith/prob.Set).Reset; temporaries: 0:s 1:s 2:i -/
def prob_Set_Reset.H : Hints := { cut := fun  | _ => none, loop := fun | 1 => ([8], 261892) | _ => ([], 0), order := fun  | _ => [] }
def prob_Set_Reset.F [Pan] (x0 : Value) (w : World) (Q : Value → World → Prop) : Prop :=
 pN Try.prog (oNil x0) w fun x4 w1 =>
 pN Try.prog (oFld 137 x4 0) w1 fun x5 w2 =>
 pN Try.prog (oLoad 23 x5) w2 fun x6 w3 =>
 pN Try.prog (oBi .len #[23] 3 [false] [x6]) w3 fun x7 w4 =>
 ∃ (L1 : Value → World → Prop) (m1 : Value → World → Nat),
 L1 (.int .i64 0) w4 ∧
 ∀ (_k1 : Env) (v8l1 : Value) (w5 : World), L1 v8l1 w5 →
 pN Try.prog (oBin .lss 3 (.tmp 8) (.tmp 7) v8l1 x7) w5 fun x9 w6 =>
 pIf x9
 (pN Try.prog (oNil x0) w6 fun x12 w7 =>
 pN Try.prog (oFld 137 x12 0) w7 fun x13 w8 =>
 pN Try.prog (oLoad 23 x13) w8 fun x14 w9 =>
 pN Try.prog (oIdx 23 x14 v8l1) w9 fun x16 w10 =>
 pN Try.prog (oStore 3 x16 (.int .i64 1024)) w10 fun _ w11 =>
 pN Try.prog (oBin .add 3 (.tmp 8) (.const (.int .i64 1)) v8l1 (.int .i64 1)) w11 fun x17 w12 =>
 (L1 x17 w12 ∧ m1 x17 w12 < m1 v8l1 w5))
 (Q (.tuple #[]) w6)
noncomputable def prob_Set_Reset.c : Code := match Try.f87.body with | some c => c | none => .skip
theorem prob_Set_Reset.eq [Pan] (x0 : Value) (w : World) (Q : Value → World → Prop) : cw Try.prog prob_Set_Reset.H prob_Set_Reset.c (endQ Try.prog Try.f87.results.toList Q) (argsE [x0]) w = prob_Set_Reset.F x0 w Q := by kernel_rfl
theorem prob_Set_Reset.calls [Pan] {x0 : Value} {w : World} {Q : Value → World → Prop} (h : prob_Set_Reset.F x0 w Q) : Calls Try.prog 87 #[x0] w (retP Q) :=
  calls_of_cw (H := prob_Set_Reset.H) (c := prob_Set_Reset.c) (args := [x0]) mixed Try.func87 (by kernel_rfl) (by kernel_rfl) (Nat.le_of_ble_eq_true (by kernel_rfl)) ((prob_Set_Reset.eq x0 w Q).mpr h)

/-! prob_Cost: pith/prob.Cost; temporaries: 0:p 1:bit 2:p 3:bit -/
def prob_Cost.H : Hints := { cut := fun | 4 => some ([0], 1921) | _ => none, loop := fun  | _ => ([], 0), order := fun  | _ => [] }
def prob_Cost.F [Pan] (x0 : Value) (x1 : Value) (w : World) (Q : Value → World → Prop) : Prop :=
 pN Try.prog (oCall 76 [x0]) w fun x6 w1 =>
 ∃ I4 : Value → World → Prop,
 (pN Try.prog (oBin .neq 3 (.tmp 7) (.const (.int .i64 0)) x1 (.int .i64 0)) w1 fun x8 w2 =>
 pIf x8
 (pN Try.prog (oBin .sub 3 (.const (.int .i64 2047)) (.tmp 9) (.int .i64 2047) x6) w2 fun x10 w3 =>
 I4 x10 w3)
 (I4 x6 w2)) ∧
 ∀ (_j4 : Env) (p0c4 : Value) (w4 : World), I4 p0c4 w4 →
 pN Try.prog (oBin .quo 3 (.tmp 11) (.const (.int .i64 16)) p0c4 (.int .i64 16)) w4 fun x12 w5 =>
 pN Try.prog (oCall 121 [x12]) w5 fun x13 w6 =>
 Q x13 w6
noncomputable def prob_Cost.c : Code := match Try.f112.body with | some c => c | none => .skip
theorem prob_Cost.eq [Pan] (x0 : Value) (x1 : Value) (w : World) (Q : Value → World → Prop) : cw Try.prog prob_Cost.H prob_Cost.c (endQ Try.prog Try.f112.results.toList Q) (argsE [x0, x1]) w = prob_Cost.F x0 x1 w Q := by kernel_rfl
theorem prob_Cost.calls [Pan] {x0 : Value} {x1 : Value} {w : World} {Q : Value → World → Prop} (h : prob_Cost.F x0 x1 w Q) : Calls Try.prog 112 #[x0, x1] w (retP Q) :=
  calls_of_cw (H := prob_Cost.H) (c := prob_Cost.c) (args := [x0, x1]) mixed Try.func112 (by kernel_rfl) (by kernel_rfl) (Nat.le_of_ble_eq_true (by kernel_rfl)) ((prob_Cost.eq x0 x1 w Q).mpr h)

/-! prob_costing: pith/prob.costing; temporaries: 0:i 1:i 3:w 4:c -/
def prob_costing.H : Hints := { cut := fun  | _ => none, loop := fun | 3 => ([3, 4, 8], 4194072) | 6 => ([3, 4], 2064408) | _ => ([], 0), order := fun  | _ => [] }
def prob_costing.F [Pan] (x0 : Value) (w : World) (Q : Value → World → Prop) : Prop :=
 pN Try.prog (oBin .mul 3 (.const (.int .i64 16)) (.tmp 5) (.int .i64 16) x0) w fun x6 w1 =>
 pN Try.prog (oBin .add 3 (.tmp 6) (.const (.int .i64 8)) x6 (.int .i64 8)) w1 fun x7 w2 =>
 ∃ (L3 : Value → Value → Value → World → Prop) (m3 : Value → Value → Value → World → Nat),
 L3 x7 (.int .i64 0) (.int .i64 0) w2 ∧
 ∀ (_k3 : Env) (w3l3 : Value) (c4l3 : Value) (v8l3 : Value) (w3 : World), L3 w3l3 c4l3 v8l3 w3 →
 pN Try.prog (oBin .lss 3 (.tmp 8) (.const (.int .i64 4)) v8l3 (.int .i64 4)) w3 fun x9 w4 =>
 pIf x9
 (pN Try.prog (oBin .mul 3 (.tmp 10) (.tmp 11) w3l3 w3l3) w4 fun x12 w5 =>
 pN Try.prog (oBin .mul 3 (.tmp 13) (.const (.int .i64 2)) c4l3 (.int .i64 2)) w5 fun x14 w6 =>
 ∃ (L6 : Value → Value → World → Prop) (m6 : Value → Value → World → Nat),
 L6 x12 x14 w6 ∧
 ∀ (_k6 : Env) (w3l6 : Value) (c4l6 : Value) (w7 : World), L6 w3l6 c4l6 w7 →
 pN Try.prog (oBin .geq 3 (.tmp 15) (.const (.int .i64 65536)) w3l6 (.int .i64 65536)) w7 fun x16 w8 =>
 pIf x16
 (pN Try.prog (oBin .quo 3 (.tmp 17) (.const (.int .i64 2)) w3l6 (.int .i64 2)) w8 fun x18 w9 =>
 pN Try.prog (oBin .add 3 (.tmp 19) (.const (.int .i64 1)) c4l6 (.int .i64 1)) w9 fun x20 w10 =>
 (L6 x18 x20 w10 ∧ m6 x18 x20 w10 < m6 w3l6 c4l6 w7))
 (pN Try.prog (oBin .add 3 (.tmp 8) (.const (.int .i64 1)) v8l3 (.int .i64 1)) w8 fun x21 w11 =>
 (L3 w3l6 c4l6 x21 w11 ∧ m3 w3l6 c4l6 x21 w11 < m3 w3l3 c4l3 v8l3 w3)))
 (pN Try.prog (oBin .sub 3 (.const (.int .i64 161)) (.tmp 22) (.int .i64 161) c4l3) w4 fun x23 w12 =>
 Q x23 w12)
noncomputable def prob_costing.c : Code := match Try.f121.body with | some c => c | none => .skip
theorem prob_costing.eq [Pan] (x0 : Value) (w : World) (Q : Value → World → Prop) : cw Try.prog prob_costing.H prob_costing.c (endQ Try.prog Try.f121.results.toList Q) (argsE [x0]) w = prob_costing.F x0 w Q := by kernel_rfl
theorem prob_costing.calls [Pan] {x0 : Value} {w : World} {Q : Value → World → Prop} (h : prob_costing.F x0 w Q) : Calls Try.prog 121 #[x0] w (retP Q) :=
  calls_of_cw (H := prob_costing.H) (c := prob_costing.c) (args := [x0]) mixed Try.func121 (by kernel_rfl) (by kernel_rfl) (Nat.le_of_ble_eq_true (by kernel_rfl)) ((prob_costing.eq x0 w Q).mpr h)

end Go.Proofs.Ytoejaggkedlfmaa

namespace Go.Proofs.Ytoejaggkedlfmaa
open Go Go.RowKit Go.ChangeShapes Go.Deep
set_option linter.unusedSimpArgs false
set_option linter.unnecessarySimpa false
set_option linter.unusedSectionVars false
set_option linter.unusedVariables false

/-! ### Bulk -/

theorem bulk_pos {H : Type} (d : DataW H) : 1 ≤ Rows.uptoBulk d := by
  cases d with
  | lit l => cases l <;> simp [Rows.uptoBulk]
  | _ => simp [Rows.uptoBulk]
theorem bulk_mem {H : Type} {d : DataW H} : ∀ {l : List (DataW H)}, d ∈ l → Rows.uptoBulk d ≤ Rows.uptoBulkAll l
  | [], h => by cases h
  | x :: r, h => by
    simp only [Rows.uptoBulkAll]
    rcases List.mem_cons.1 h with rfl | h
    · omega
    · have := bulk_mem h; omega
theorem bulk_length {H : Type} : ∀ (l : List (DataW H)), l.length ≤ Rows.uptoBulkAll l
  | [] => by simp [Rows.uptoBulkAll]
  | x :: r => by have := bulk_pos x; have := bulk_length r; simp only [Rows.uptoBulkAll, List.length_cons]; omega
theorem bulk_small {H : Type} {ds : List (DataW H)} (h : Rows.uptoSmall H ds = true) : ∀ d ∈ ds, Rows.uptoBulk d ≤ 1048576 := by
  intro d hd
  have h1 : Rows.uptoBulkAll ds ≤ 1048576 := of_decide_eq_true h
  have := bulk_mem hd
  omega

theorem weights_all {H : Type} {P : Program} {e : TypeId} {d : DataW H} {n : Nat} : ∀ {l : List (DataW H)}, d ∈ l → n ∈ d.weights P e → n ∈ DataW.weightsAll P e l
  | [], h, _ => by cases h
  | x :: r, h, hn => by
    simp only [DataW.weightsAll, List.mem_append]
    rcases List.mem_cons.1 h with rfl | h
    · exact .inl hn
    · exact .inr (weights_all h hn)

/-! ### Reading -/

/-- How a value of a type reads: its cells, and what is known of it and of its bulk. -/
structure Opn (P : Program) (W : World) (t : TypeId) {β : Type} (enc : β → List Value) (ok : β → Nat → Prop) : Prop where
  get : ∀ {H : Type} (en : TypeId × Value → H) (fuel : Nat) (cs : List Value) (x : DataW H × List MemPlace),
    DataW.trod en P W 0 (fun _ => true) true fuel t cs = some x → (∀ n ∈ x.1.weights P t, n ≤ reachBytes) → ∃ b, cs = enc b ∧ ok b (Rows.uptoBulk x.1)

section
variable {P : Program} {W : World} {t : TypeId}

theorem trod_pos {H : Type} {en : TypeId × Value → H} {fuel : Nat} {cs : List Value} {x : DataW H × List MemPlace} (h : DataW.trod en P W 0 (fun _ => true) true fuel t cs = some x) : ∃ n, fuel = n + 1 := by
  cases fuel with
  | zero => simp [DataW.trod] at h
  | succ n => exact ⟨n, rfl⟩

theorem opn_int {k : IntKind} (ht : P.underlying t = some (.int k)) : Opn P W t (fun n : Int => [.int k n]) (fun n _ => (Lit.int k n).wf = true) := by
  refine ⟨fun {H} en fuel cs x hx _ => ?_⟩
  obtain ⟨n, rfl⟩ := trod_pos hx
  unfold DataW.trod at hx
  rw [ht] at hx
  split at hx <;> simp_all
theorem Opn.mono {β : Type} {enc : β → List Value} {ok ok' : β → Nat → Prop} (h : Opn P W t enc ok) (hm : ∀ b k, ok b k → ok' b k) : Opn P W t enc ok' := by
  refine ⟨fun {H} en fuel cs x hx hw => ?_⟩
  obtain ⟨b, hb, hk⟩ := h.get en fuel cs x hx hw
  exact ⟨b, hb, hm _ _ hk⟩
theorem opn_i64 (ht : P.underlying t = some (.int .i64)) : Opn P W t (fun n : Int => [.int .i64 n]) (fun n _ => -9223372036854775808 ≤ n ∧ n < 9223372036854775808) :=
  Opn.mono (opn_int ht) fun n _ h => by
    simp [Lit.wf, IntKind.min, IntKind.max, IntKind.signed, IntKind.bits] at h
    omega
theorem opn_u32 (ht : P.underlying t = some (.int .u32)) : Opn P W t (fun n : Int => [.int .u32 n]) (fun n _ => 0 ≤ n ∧ n < 4294967296) :=
  Opn.mono (opn_int ht) fun n _ h => by
    simp [Lit.wf, IntKind.min, IntKind.max, IntKind.signed, IntKind.bits] at h
    omega
theorem opn_u64 (ht : P.underlying t = some (.int .u64)) : Opn P W t (fun n : Int => [.int .u64 n]) (fun n _ => 0 ≤ n ∧ n < 18446744073709551616) :=
  Opn.mono (opn_int ht) fun n _ h => by
    simp [Lit.wf, IntKind.min, IntKind.max, IntKind.signed, IntKind.bits] at h
    omega
theorem opn_u8 (ht : P.underlying t = some (.int .u8)) : Opn P W t (fun n : UInt8 => [bv n]) (fun _ _ => True) := by
  refine ⟨fun {H} en fuel cs x hx hw => ?_⟩
  obtain ⟨n, rfl, h⟩ := (opn_int ht).get en fuel cs x hx hw
  simp [Lit.wf, IntKind.min, IntKind.max, IntKind.signed, IntKind.bits] at h
  refine ⟨UInt8.ofNat n.toNat, ?_, trivial⟩
  unfold bv
  simp only [UInt8.toNat_ofNat', List.cons.injEq, Value.int.injEq, true_and, and_true]
  omega
theorem opn_bool (ht : P.underlying t = some .bool) : Opn P W t (fun b : Bool => [.bool b]) (fun _ _ => True) := by
  refine ⟨fun {H} en fuel cs x hx _ => ?_⟩
  obtain ⟨n, rfl⟩ := trod_pos hx
  unfold DataW.trod at hx
  rw [ht] at hx
  split at hx <;> simp_all
theorem opn_str (ht : P.underlying t = some .string) : Opn P W t (fun l : List UInt8 => [.string ⟨l.toArray⟩]) (fun l k => l.length ≤ reachBytes ∧ l.length + 1 ≤ k) := by
  refine ⟨fun {H} en fuel cs x hx hw => ?_⟩
  obtain ⟨n, rfl⟩ := trod_pos hx
  unfold DataW.trod at hx
  rw [ht] at hx
  split at hx <;> simp_all
  obtain ⟨_, rfl⟩ := hx
  rename_i s _
  refine ⟨s.data.toList, by simp, ?_, ?_⟩
  · simpa [DataW.weights] using hw
  · simp [Rows.uptoBulk]

/-- A slice. -/
theorem opn_slice {β : Type} {C : Cd β} {ok : β → Nat → Prop} (ht : P.underlying t = some (.slice C.e)) (hs : P.cellsOf C.e = C.size) (hb : P.bytesOf C.e = C.bytes) (h : Opn P W C.e C.enc ok) :
    Opn P W t (fun p : Sl × List β => [.slice p.1.a p.2.length p.1.c])
      (fun p k => RdP C (old W) p.1 p.2 ∧ p.2.length * C.bytes ≤ reachBytes ∧ p.2.length + 1 ≤ k ∧ ∀ b ∈ p.2, ∃ k', k' ≤ k ∧ ok b k') := by
  refine ⟨fun {H} en fuel cs x hx hw => ?_⟩
  rcases open_slice ht hx with ⟨rfl, rfl⟩ | ⟨a, len, cap, m, n, D, Pl, rfl, _, hl, hm, hmm, rfl, hel⟩
  · exact ⟨(⟨none, 0⟩, []), rfl, ⟨RdA.old Rd.nil⟩, by simp, by simp [Rows.uptoBulk], by simp⟩
  · simp only [if_true] at hmm
    subst hmm
    have hwt : ∀ i, i < len → ∀ n ∈ (D i).weights P C.e, n ≤ reachBytes := by
      intro i hi n hn
      refine hw n ?_
      simp only [DataW.weights, ht, List.mem_cons, List.mem_append]
      exact .inr (.inl (weights_all (List.mem_map.2 ⟨i, by simpa using hi, rfl⟩) hn))
    have hD : ∀ i, i < len → ∃ b, (W.cells? 0 (a.add (i * C.size)) C.size = some (C.enc b)) ∧ ok b (Rows.uptoBulk (D i)) := by
      intro i hi
      obtain ⟨cs', h1, h2⟩ := hel i (by omega)
      rw [hs] at h1
      obtain ⟨b, rfl, hk⟩ := h.get en n cs' _ h2 (hwt i hi)
      exact ⟨b, h1, hk⟩
    have hinh : Inhabited β := ⟨C.zero⟩
    obtain ⟨V, hV⟩ := choose_lt hD
    have hlen : ((List.range len).map V).length = len := by simp
    have hget : ∀ i, i < len → ((List.range len).map V)[i]? = some (V i) := by intro i hi; simp [hi]
    refine ⟨(⟨some a, m⟩, (List.range len).map V), by simp, ⟨RdA.old ?_⟩, ?_, ?_, ?_⟩
    · refine ⟨C.flat_len _, some a, m, rfl, by rw [hlen]; exact hl, fun h => by simp at h, fun a' ha j u hu => ?_⟩
      cases ha
      have hj : j < (C.flat ((List.range len).map V)).length := (List.getElem?_eq_some_iff.1 hu).1
      rw [C.flat_len, hlen] at hj
      have hpos : 0 < C.size := by
        rcases Nat.eq_zero_or_pos C.size with h0 | h0
        · rw [h0] at hj; omega
        · exact h0
      have hi : j / C.size < len := by
        rw [Nat.div_lt_iff_lt_mul hpos]; exact hj
      have hr : j % C.size < C.size := Nat.mod_lt _ hpos
      have e1 : j / C.size * C.size + j % C.size = j := by rw [Nat.mul_comm]; exact Nat.div_add_mod _ _
      have e2 := C.flat_get _ _ _ (hget _ hi)
      have e3 : (C.enc (V (j / C.size)))[j % C.size]? = some u := by
        rw [← e2, List.getElem?_take, if_pos hr, List.getElem?_drop, e1]
        exact hu
      obtain ⟨_, _, h3⟩ := World.cells?_some (hV _ hi).1
      have := h3 _ hr
      rw [Addr.add_add, e1] at this
      rw [this]; exact e3
    · simp only [hlen]
      have := hw ((((List.range len).map D).length + ((List.range (m - len)).map fun j => D (len + j)).length) * P.bytesOf C.e) (by
        simp only [DataW.weights, ht]
        exact List.mem_cons_self)
      simp only [List.length_map, List.length_range, hb] at this
      exact Nat.le_trans (Nat.mul_le_mul_right _ (Nat.le_add_right _ _)) this
    · simp only [hlen, Rows.uptoBulk]
      have := bulk_length ((List.range len).map D)
      simp only [List.length_map, List.length_range] at this
      omega
    · intro b hb
      simp only [List.mem_map, List.mem_range] at hb
      obtain ⟨i, hi, rfl⟩ := hb
      refine ⟨_, ?_, (hV i hi).2⟩
      have := bulk_mem (List.mem_map.2 ⟨i, by simpa using hi, rfl⟩ : D i ∈ (List.range len).map D)
      simp only [Rows.uptoBulk]
      omega

/-- A field of a struct. -/
theorem opn_field {fs : Array Field} {H : Type} {en : TypeId × Value → H} {n : Nat} {cs : List Value} {xs : List (DataW H × List MemPlace)} (ht : P.underlying t = some (.struct fs))
    (hw : ∀ n ∈ (DataW.agg (xs.map (·.1))).weights P t, n ≤ reachBytes)
    (hf : ∀ (i : Nat) (f : Field), fs[i]? = some f → DataW.trod en P W 0 (fun _ => true) true n f.type ((cs.drop f.offset).take (P.cellsOf f.type)) = xs[i]?)
    (i ft off sz : Nat) (hi' : ∃ f, fs[i]? = some f ∧ f.type = ft ∧ f.offset = off) (hc : P.cellsOf ft = sz) (hl : i < xs.length) {β : Type} {enc : β → List Value} {ok : β → Nat → Prop} (h : Opn P W ft enc ok) :
    ∃ b, (cs.drop off).take sz = enc b ∧ ∃ k', k' ≤ Rows.uptoBulk (DataW.agg (xs.map (·.1))) ∧ ok b k' := by
  obtain ⟨f, hi, rfl, rfl⟩ := hi'
  subst hc
  have h1 := hf i f hi
  rw [List.getElem?_eq_getElem hl] at h1
  obtain ⟨b, hb, hk⟩ := h.get en n _ _ h1 fun m hm => hw m (by
    simp only [DataW.weights, ht]
    exact DataW.weights_mem_each (j := i) (t := f.type) (d := xs[i].1) (by simp [hi]) (by simp [hl]) m hm)
  refine ⟨b, hb, _, ?_, hk⟩
  have := bulk_mem (List.mem_map.2 ⟨xs[i], List.getElem_mem hl, rfl⟩ : xs[i].1 ∈ xs.map (·.1))
  simp only [Rows.uptoBulk]
  omega

/-- A whole argument. -/
theorem opn_arg {β : Type} {enc : β → List Value} {ok : β → Nat → Prop} (h : Opn P W t enc ok) {H : Type} {en : TypeId × Value → H} {v : Value} {d : DataW H} {p : List MemPlace} (hd : DataW.Trod en P W 0 (fun _ => true) true t v d p)
    (hw : ∀ n ∈ d.weights P t, n ≤ reachBytes) : ∃ b, v.cells.toList = enc b ∧ ok b (Rows.uptoBulk d) := by
  obtain ⟨fuel, hf⟩ := hd
  exact h.get en fuel _ _ hf hw
end

theorem walk_end {P : Program} {f : FuncId} {args : Array Value} {W : World} (h : Calls P f args W (retP fun v w => v = .bool true ∧ Sat W w [old W])) : Calls P f args W fun e W' => e = .returned (.bool true) ∧ Below W.heap.size W W' :=
  h.mono fun e w he => by
    cases e with
    | returned v => obtain ⟨rfl, hS⟩ := he; exact ⟨rfl, hS.below 0 rfl⟩
    | panicked c => exact he.elim
    | outgrown => exact he.elim

theorem cells_one {v u : Value} (h : v.cells.toList = [u]) (hv : v.oneCell' = true) : v = u := by
  cases v <;> first | (simp [Value.cells] at h; exact h) | cases hv
theorem cells_agg {cs : Array Value} {l : List Value} (h : (Value.agg cs).cells.toList = l) : Value.agg cs = .agg l.toArray := by
  simp only [Value.cells] at h
  rw [← h]

end Go.Proofs.Ytoejaggkedlfmaa

namespace Go.Proofs.Ytoejaggkedlfmaa
open Go Go.RowKit Go.ChangeShapes
set_option linter.unusedSimpArgs false
set_option linter.unnecessarySimpa false
set_option linter.unusedSectionVars false
set_option linter.unusedVariables false

instance sc_3 : Sc Try.prog 3 := ⟨Try.isAgg3, Try.sizeOf3⟩
instance sc_4 : Sc Try.prog 4 := ⟨Try.isAgg4, Try.sizeOf4⟩
instance sc_5 : Sc Try.prog 5 := ⟨Try.isAgg5, Try.sizeOf5⟩
instance sc_9 : Sc Try.prog 9 := ⟨Try.isAgg9, Try.sizeOf9⟩
instance sc_20 : Sc Try.prog 20 := ⟨Try.isAgg20, Try.sizeOf20⟩
instance sc_22 : Sc Try.prog 22 := ⟨Try.isAgg22, Try.sizeOf22⟩
instance sc_23 : Sc Try.prog 23 := ⟨Try.isAgg23, Try.sizeOf23⟩
instance sc_24 : Sc Try.prog 24 := ⟨Try.isAgg24, Try.sizeOf24⟩
instance sc_26 : Sc Try.prog 26 := ⟨Try.isAgg26, Try.sizeOf26⟩
instance sc_27 : Sc Try.prog 27 := ⟨Try.isAgg27, Try.sizeOf27⟩
instance sc_29 : Sc Try.prog 29 := ⟨Try.isAgg29, Try.sizeOf29⟩
instance sc_33 : Sc Try.prog 33 := ⟨Try.isAgg33, Try.sizeOf33⟩
instance sc_34 : Sc Try.prog 34 := ⟨Try.isAgg34, Try.sizeOf34⟩
instance ag_38 : Ag Try.prog 38 2 := ⟨Try.isAgg38, Try.sizeOf38⟩
instance ag_43 : Ag Try.prog 43 4 := ⟨Try.isAgg43, Try.sizeOf43⟩
instance sc_49 : Sc Try.prog 49 := ⟨Try.isAgg49, Try.sizeOf49⟩
instance ag_50 : Ag Try.prog 50 2 := ⟨Try.isAgg50, Try.sizeOf50⟩
instance sc_51 : Sc Try.prog 51 := ⟨Try.isAgg51, Try.sizeOf51⟩
instance ag_52 : Ag Try.prog 52 2 := ⟨Try.isAgg52, Try.sizeOf52⟩
instance ag_54 : Ag Try.prog 54 4 := ⟨Try.isAgg54, Try.sizeOf54⟩
instance sc_57 : Sc Try.prog 57 := ⟨Try.isAgg57, Try.sizeOf57⟩
instance ag_60 : Ag Try.prog 60 2 := ⟨Try.isAgg60, Try.sizeOf60⟩
instance sc_61 : Sc Try.prog 61 := ⟨Try.isAgg61, Try.sizeOf61⟩
instance sc_62 : Sc Try.prog 62 := ⟨Try.isAgg62, Try.sizeOf62⟩
instance ag_64 : Ag Try.prog 64 7 := ⟨Try.isAgg64, Try.sizeOf64⟩
instance ag_68 : Ag Try.prog 68 5 := ⟨Try.isAgg68, Try.sizeOf68⟩
instance sc_74 : Sc Try.prog 74 := ⟨Try.isAgg74, Try.sizeOf74⟩
instance sc_75 : Sc Try.prog 75 := ⟨Try.isAgg75, Try.sizeOf75⟩
instance sc_78 : Sc Try.prog 78 := ⟨Try.isAgg78, Try.sizeOf78⟩
instance ag_87 : Ag Try.prog 87 4 := ⟨Try.isAgg87, Try.sizeOf87⟩
instance ag_98 : Ag Try.prog 98 2 := ⟨Try.isAgg98, Try.sizeOf98⟩
instance sc_102 : Sc Try.prog 102 := ⟨Try.isAgg102, Try.sizeOf102⟩
instance sc_110 : Sc Try.prog 110 := ⟨Try.isAgg110, Try.sizeOf110⟩
instance sc_111 : Sc Try.prog 111 := ⟨Try.isAgg111, Try.sizeOf111⟩
instance ag_116 : Ag Try.prog 116 5 := ⟨Try.isAgg116, Try.sizeOf116⟩
instance sc_120 : Sc Try.prog 120 := ⟨Try.isAgg120, Try.sizeOf120⟩
instance sc_127 : Sc Try.prog 127 := ⟨Try.isAgg127, Try.sizeOf127⟩
instance sc_128 : Sc Try.prog 128 := ⟨Try.isAgg128, Try.sizeOf128⟩
instance ag_130 : Ag Try.prog 130 2 := ⟨Try.isAgg130, Try.sizeOf130⟩
instance sc_131 : Sc Try.prog 131 := ⟨Try.isAgg131, Try.sizeOf131⟩
instance ag_133 : Ag Try.prog 133 5 := ⟨Try.isAgg133, Try.sizeOf133⟩
instance ag_137 : Ag Try.prog 137 1 := ⟨Try.isAgg137, Try.sizeOf137⟩
instance ag_139 : Ag Try.prog 139 3 := ⟨Try.isAgg139, Try.sizeOf139⟩
instance ag_145 : Ag Try.prog 145 2 := ⟨Try.isAgg145, Try.sizeOf145⟩
instance ag_147 : Ag Try.prog 147 3 := ⟨Try.isAgg147, Try.sizeOf147⟩
instance ag_149 : Ag Try.prog 149 4 := ⟨Try.isAgg149, Try.sizeOf149⟩
instance ag_151 : Ag Try.prog 151 4 := ⟨Try.isAgg151, Try.sizeOf151⟩
instance sc_169 : Sc Try.prog 169 := ⟨Try.isAgg169, Try.sizeOf169⟩
instance sc_171 : Sc Try.prog 171 := ⟨Try.isAgg171, Try.sizeOf171⟩
instance ag_175 : Ag Try.prog 175 2 := ⟨Try.isAgg175, Try.sizeOf175⟩
instance zv_3 : Zv Try.prog 3 [(.int .i64 0)] := ⟨_, Try.zeroValue3, rfl⟩
instance zv_4 : Zv Try.prog 4 [(.bool false)] := ⟨_, Try.zeroValue4, rfl⟩
instance zv_5 : Zv Try.prog 5 [(bv 0)] := ⟨_, Try.zeroValue5, rfl⟩
instance zv_9 : Zv Try.prog 9 [(.string ⟨#[]⟩)] := ⟨_, Try.zeroValue9, rfl⟩
instance zv_20 : Zv Try.prog 20 [.nilIface] := ⟨_, Try.zeroValue20, rfl⟩
instance zv_22 : Zv Try.prog 22 [(.slice none 0 0)] := ⟨_, Try.zeroValue22, rfl⟩
instance zv_23 : Zv Try.prog 23 [(.slice none 0 0)] := ⟨_, Try.zeroValue23, rfl⟩
instance zv_24 : Zv Try.prog 24 [(.pointer none)] := ⟨_, Try.zeroValue24, rfl⟩
instance zv_26 : Zv Try.prog 26 [(.int .u32 0)] := ⟨_, Try.zeroValue26, rfl⟩
instance zv_27 : Zv Try.prog 27 [(.int .i64 0)] := ⟨_, Try.zeroValue27, rfl⟩
instance zv_29 : Zv Try.prog 29 [(.slice none 0 0)] := ⟨_, Try.zeroValue29, rfl⟩
instance zv_33 : Zv Try.prog 33 [(.slice none 0 0)] := ⟨_, Try.zeroValue33, rfl⟩
instance zv_34 : Zv Try.prog 34 [(.pointer none)] := ⟨_, Try.zeroValue34, rfl⟩
instance zv_38 : Zv Try.prog 38 [(.int .i64 0), (.bool false)] := ⟨_, Try.zeroValue38, rfl⟩
instance zv_43 : Zv Try.prog 43 [(.int .i64 0), (.int .i64 0), (.int .i64 0), (.int .i64 0)] := ⟨_, Try.zeroValue43, rfl⟩
instance zv_49 : Zv Try.prog 49 [(.slice none 0 0)] := ⟨_, Try.zeroValue49, rfl⟩
instance zv_50 : Zv Try.prog 50 [(.pointer none), (.pointer none)] := ⟨_, Try.zeroValue50, rfl⟩
instance zv_51 : Zv Try.prog 51 [(.pointer none)] := ⟨_, Try.zeroValue51, rfl⟩
instance zv_52 : Zv Try.prog 52 [(.pointer none), (.pointer none)] := ⟨_, Try.zeroValue52, rfl⟩
instance zv_54 : Zv Try.prog 54 [(.pointer none), (.pointer none), (.pointer none), (.pointer none)] := ⟨_, Try.zeroValue54, rfl⟩
instance zv_57 : Zv Try.prog 57 [(.pointer none)] := ⟨_, Try.zeroValue57, rfl⟩
instance zv_60 : Zv Try.prog 60 [(.pointer none), (.pointer none)] := ⟨_, Try.zeroValue60, rfl⟩
instance zv_61 : Zv Try.prog 61 [(.slice none 0 0)] := ⟨_, Try.zeroValue61, rfl⟩
instance zv_62 : Zv Try.prog 62 [(.slice none 0 0)] := ⟨_, Try.zeroValue62, rfl⟩
instance zv_64 : Zv Try.prog 64 [(.int .i64 0), (.int .i64 0), (.int .i64 0), (.int .i64 0), (.int .i64 0), (.int .u32 0), (.int .i64 0)] := ⟨_, Try.zeroValue64, rfl⟩
instance zv_68 : Zv Try.prog 68 [(.slice none 0 0), (.int .i64 0), (bv 0), (.string ⟨#[]⟩), (.bool false)] := ⟨_, Try.zeroValue68, rfl⟩
instance zv_74 : Zv Try.prog 74 [(.slice none 0 0)] := ⟨_, Try.zeroValue74, rfl⟩
instance zv_75 : Zv Try.prog 75 [(.pointer none)] := ⟨_, Try.zeroValue75, rfl⟩
instance zv_78 : Zv Try.prog 78 [(.pointer none)] := ⟨_, Try.zeroValue78, rfl⟩
instance zv_87 : Zv Try.prog 87 [(.bool false), (.int .i64 0), (.int .i64 0), (.int .u32 0)] := ⟨_, Try.zeroValue87, rfl⟩
instance zv_98 : Zv Try.prog 98 [(.int .i64 0), (.slice none 0 0)] := ⟨_, Try.zeroValue98, rfl⟩
instance zv_102 : Zv Try.prog 102 [(.slice none 0 0)] := ⟨_, Try.zeroValue102, rfl⟩
instance zv_110 : Zv Try.prog 110 [(.slice none 0 0)] := ⟨_, Try.zeroValue110, rfl⟩
instance zv_111 : Zv Try.prog 111 [(.pointer none)] := ⟨_, Try.zeroValue111, rfl⟩
instance zv_116 : Zv Try.prog 116 [(.int .i64 0), (.int .i64 0), (.int .i64 0), (.int .i64 0), (.int .i64 0)] := ⟨_, Try.zeroValue116, rfl⟩
instance zv_120 : Zv Try.prog 120 [(.slice none 0 0)] := ⟨_, Try.zeroValue120, rfl⟩
instance zv_127 : Zv Try.prog 127 [(.slice none 0 0)] := ⟨_, Try.zeroValue127, rfl⟩
instance zv_128 : Zv Try.prog 128 [(.slice none 0 0)] := ⟨_, Try.zeroValue128, rfl⟩
instance zv_130 : Zv Try.prog 130 [(.slice none 0 0), (.slice none 0 0)] := ⟨_, Try.zeroValue130, rfl⟩
instance zv_131 : Zv Try.prog 131 [(.int .u64 0)] := ⟨_, Try.zeroValue131, rfl⟩
instance zv_133 : Zv Try.prog 133 [(.int .u64 0), (.int .u32 0), (bv 0), (.int .i64 0), (.slice none 0 0)] := ⟨_, Try.zeroValue133, rfl⟩
instance zv_137 : Zv Try.prog 137 [(.slice none 0 0)] := ⟨_, Try.zeroValue137, rfl⟩
instance zv_139 : Zv Try.prog 139 [(.slice none 0 0), (.int .u32 0), (.int .i64 0)] := ⟨_, Try.zeroValue139, rfl⟩
instance zv_145 : Zv Try.prog 145 [(.int .i64 0), (.slice none 0 0)] := ⟨_, Try.zeroValue145, rfl⟩
instance zv_147 : Zv Try.prog 147 [(.int .i64 0), (.int .u32 0), (.int .u32 0)] := ⟨_, Try.zeroValue147, rfl⟩
instance zv_149 : Zv Try.prog 149 [(.slice none 0 0), (.int .i64 0), (.int .u32 0), (.int .u32 0)] := ⟨_, Try.zeroValue149, rfl⟩
instance zv_151 : Zv Try.prog 151 [(.slice none 0 0), (.int .i64 0), (.int .i64 0), (.int .i64 0)] := ⟨_, Try.zeroValue151, rfl⟩
instance zv_169 : Zv Try.prog 169 [.nilFunc] := ⟨_, Try.zeroValue169, rfl⟩
instance zv_171 : Zv Try.prog 171 [(.slice none 0 0)] := ⟨_, Try.zeroValue171, rfl⟩
instance zv_175 : Zv Try.prog 175 [(.int .i64 0), (.int .i64 0)] := ⟨_, Try.zeroValue175, rfl⟩
structure T_pithlaw07_Bit where
  I : Int
  One : Bool
def T_pithlaw07_Bit.zero : T_pithlaw07_Bit := ⟨0, false⟩
def T_pithlaw07_Bit.enc (b : T_pithlaw07_Bit) : List Value := [.int .i64 b.I, .bool b.One]
structure T_pithlaw07_Op where
  Kind : Int
  f_E : Int
  S : Int
  I : Int
  Bit : Int
  V : Int
  N : Int
def T_pithlaw07_Op.zero : T_pithlaw07_Op := ⟨0, 0, 0, 0, 0, 0, 0⟩
def T_pithlaw07_Op.enc (b : T_pithlaw07_Op) : List Value := [.int .i64 b.Kind, .int .i64 b.f_E, .int .i64 b.S, .int .i64 b.I, .int .i64 b.Bit, .int .u32 b.V, .int .i64 b.N]
structure T_pithlaw07_Pair where
  f_E : Option Addr
  R : Option Addr
def T_pithlaw07_Pair.zero : T_pithlaw07_Pair := ⟨none, none⟩
def T_pithlaw07_Pair.enc (b : T_pithlaw07_Pair) : List Value := [.pointer b.f_E, .pointer b.R]
structure T_pithlaw07_Held where
  B : (Sl × List UInt8)
  N : Int
  Mark : UInt8
  Want : List UInt8
  Kept : Bool
def T_pithlaw07_Held.zero : T_pithlaw07_Held := ⟨(⟨none, 0⟩, []), 0, 0, [], false⟩
def T_pithlaw07_Held.enc (b : T_pithlaw07_Held) : List Value := [.slice b.B.1.a b.B.2.length b.B.1.c, .int .i64 b.N, bv b.Mark, .string ⟨List.toArray b.Want⟩, .bool b.Kept]
structure T_pithlaw08_Ask where
  Direct : Bool
  I : Int
  N : Int
  V : Int
def T_pithlaw08_Ask.zero : T_pithlaw08_Ask := ⟨false, 0, 0, 0⟩
def T_pithlaw08_Ask.enc (b : T_pithlaw08_Ask) : List Value := [.bool b.Direct, .int .i64 b.I, .int .i64 b.N, .int .u32 b.V]
structure T_pithlaw08_Plan where
  N : Int
  Asks : (Sl × List T_pithlaw08_Ask)
def T_pithlaw08_Plan.zero : T_pithlaw08_Plan := ⟨0, (⟨none, 0⟩, [])⟩
def T_pithlaw08_Plan.enc (b : T_pithlaw08_Plan) : List Value := [.int .i64 b.N, .slice b.Asks.1.a b.Asks.2.length b.Asks.1.c]
structure T_pithlaw09_Op where
  Kind : Int
  Row : Int
  At : Int
  N : Int
  V : Int
def T_pithlaw09_Op.zero : T_pithlaw09_Op := ⟨0, 0, 0, 0, 0⟩
def T_pithlaw09_Op.enc (b : T_pithlaw09_Op) : List Value := [.int .i64 b.Kind, .int .i64 b.Row, .int .i64 b.At, .int .i64 b.N, .int .i64 b.V]
structure T_pithref09_Step where
  At : Int
  Bit : Int
def T_pithref09_Step.zero : T_pithref09_Step := ⟨0, 0⟩
def T_pithref09_Step.enc (b : T_pithref09_Step) : List Value := [.int .i64 b.At, .int .i64 b.Bit]
def cd_int : Cd Int := { e := 3, size := 1, bytes := 8, zero := 0, enc := fun b => [.int .i64 b], len := fun _ => rfl, one := by intro b u hu; simp only [List.mem_cons, List.not_mem_nil, or_false] at hu; subst hu; rfl }
instance bt_int : Bt cd_int 8 := ⟨rfl⟩
def cd_bool : Cd Bool := { e := 4, size := 1, bytes := 1, zero := false, enc := fun b => [.bool b], len := fun _ => rfl, one := by intro b u hu; simp only [List.mem_cons, List.not_mem_nil, or_false] at hu; subst hu; rfl }
instance bt_bool : Bt cd_bool 1 := ⟨rfl⟩
def cd_uint8 : Cd UInt8 := { e := 5, size := 1, bytes := 1, zero := 0, enc := fun b => [bv b], len := fun _ => rfl, one := by intro b u hu; simp only [List.mem_cons, List.not_mem_nil, or_false] at hu; subst hu; rfl }
instance bt_uint8 : Bt cd_uint8 1 := ⟨rfl⟩
def cd_uint32 : Cd Int := { e := 26, size := 1, bytes := 4, zero := 0, enc := fun b => [.int .u32 b], len := fun _ => rfl, one := by intro b u hu; simp only [List.mem_cons, List.not_mem_nil, or_false] at hu; subst hu; rfl }
instance bt_uint32 : Bt cd_uint32 4 := ⟨rfl⟩
def cd_sl_uint8 : Cd (Sl × List UInt8) := { e := 29, size := 1, bytes := 24, zero := (⟨none, 0⟩, []), enc := fun b => [.slice b.1.a b.2.length b.1.c], len := fun _ => rfl, one := by intro b u hu; simp only [List.mem_cons, List.not_mem_nil, or_false] at hu; subst hu; rfl }
instance bt_sl_uint8 : Bt cd_sl_uint8 24 := ⟨rfl⟩
def cd_p_prob_Set : Cd (Option Addr) := { e := 34, size := 1, bytes := 8, zero := none, enc := fun b => [.pointer b], len := fun _ => rfl, one := by intro b u hu; simp only [List.mem_cons, List.not_mem_nil, or_false] at hu; subst hu; rfl }
instance bt_p_prob_Set : Bt cd_p_prob_Set 8 := ⟨rfl⟩
def cd_pithlaw07_Bit : Cd T_pithlaw07_Bit := { e := 38, size := 2, bytes := 16, zero := T_pithlaw07_Bit.zero, enc := T_pithlaw07_Bit.enc, len := fun _ => rfl, one := by intro b u hu; simp only [T_pithlaw07_Bit.enc, T_pithlaw07_Held.enc, T_pithlaw07_Op.enc, T_pithlaw07_Pair.enc, T_pithlaw08_Ask.enc, T_pithlaw08_Plan.enc, T_pithlaw09_Op.enc, T_pithref09_Step.enc, List.mem_cons, List.mem_append, List.not_mem_nil, or_false] at hu; rcases hu with rfl|rfl <;> rfl }
instance bt_pithlaw07_Bit : Bt cd_pithlaw07_Bit 16 := ⟨rfl⟩
def cd_p_pithref06_Set : Cd (Option Addr) := { e := 51, size := 1, bytes := 8, zero := none, enc := fun b => [.pointer b], len := fun _ => rfl, one := by intro b u hu; simp only [List.mem_cons, List.not_mem_nil, or_false] at hu; subst hu; rfl }
instance bt_p_pithref06_Set : Bt cd_p_pithref06_Set 8 := ⟨rfl⟩
def cd_pithlaw07_Pair : Cd T_pithlaw07_Pair := { e := 60, size := 2, bytes := 16, zero := T_pithlaw07_Pair.zero, enc := T_pithlaw07_Pair.enc, len := fun _ => rfl, one := by intro b u hu; simp only [T_pithlaw07_Bit.enc, T_pithlaw07_Held.enc, T_pithlaw07_Op.enc, T_pithlaw07_Pair.enc, T_pithlaw08_Ask.enc, T_pithlaw08_Plan.enc, T_pithlaw09_Op.enc, T_pithref09_Step.enc, List.mem_cons, List.mem_append, List.not_mem_nil, or_false] at hu; rcases hu with rfl|rfl <;> rfl }
instance bt_pithlaw07_Pair : Bt cd_pithlaw07_Pair 16 := ⟨rfl⟩
def cd_pithlaw07_Op : Cd T_pithlaw07_Op := { e := 64, size := 7, bytes := 56, zero := T_pithlaw07_Op.zero, enc := T_pithlaw07_Op.enc, len := fun _ => rfl, one := by intro b u hu; simp only [T_pithlaw07_Bit.enc, T_pithlaw07_Held.enc, T_pithlaw07_Op.enc, T_pithlaw07_Pair.enc, T_pithlaw08_Ask.enc, T_pithlaw08_Plan.enc, T_pithlaw09_Op.enc, T_pithref09_Step.enc, List.mem_cons, List.mem_append, List.not_mem_nil, or_false] at hu; rcases hu with rfl|rfl|rfl|rfl|rfl|rfl|rfl <;> rfl }
instance bt_pithlaw07_Op : Bt cd_pithlaw07_Op 56 := ⟨rfl⟩
def cd_pithlaw07_Held : Cd T_pithlaw07_Held := { e := 68, size := 5, bytes := 64, zero := T_pithlaw07_Held.zero, enc := T_pithlaw07_Held.enc, len := fun _ => rfl, one := by intro b u hu; simp only [T_pithlaw07_Bit.enc, T_pithlaw07_Held.enc, T_pithlaw07_Op.enc, T_pithlaw07_Pair.enc, T_pithlaw08_Ask.enc, T_pithlaw08_Plan.enc, T_pithlaw09_Op.enc, T_pithref09_Step.enc, List.mem_cons, List.mem_append, List.not_mem_nil, or_false] at hu; rcases hu with rfl|rfl|rfl|rfl|rfl <;> rfl }
instance bt_pithlaw07_Held : Bt cd_pithlaw07_Held 64 := ⟨rfl⟩
def cd_pithlaw08_Ask : Cd T_pithlaw08_Ask := { e := 87, size := 4, bytes := 32, zero := T_pithlaw08_Ask.zero, enc := T_pithlaw08_Ask.enc, len := fun _ => rfl, one := by intro b u hu; simp only [T_pithlaw07_Bit.enc, T_pithlaw07_Held.enc, T_pithlaw07_Op.enc, T_pithlaw07_Pair.enc, T_pithlaw08_Ask.enc, T_pithlaw08_Plan.enc, T_pithlaw09_Op.enc, T_pithref09_Step.enc, List.mem_cons, List.mem_append, List.not_mem_nil, or_false] at hu; rcases hu with rfl|rfl|rfl|rfl <;> rfl }
instance bt_pithlaw08_Ask : Bt cd_pithlaw08_Ask 32 := ⟨rfl⟩
def cd_pithlaw08_Plan : Cd T_pithlaw08_Plan := { e := 98, size := 2, bytes := 32, zero := T_pithlaw08_Plan.zero, enc := T_pithlaw08_Plan.enc, len := fun _ => rfl, one := by intro b u hu; simp only [T_pithlaw07_Bit.enc, T_pithlaw07_Held.enc, T_pithlaw07_Op.enc, T_pithlaw07_Pair.enc, T_pithlaw08_Ask.enc, T_pithlaw08_Plan.enc, T_pithlaw09_Op.enc, T_pithref09_Step.enc, List.mem_cons, List.mem_append, List.not_mem_nil, or_false] at hu; rcases hu with rfl|rfl <;> rfl }
instance bt_pithlaw08_Plan : Bt cd_pithlaw08_Plan 32 := ⟨rfl⟩
def cd_pithlaw09_Op : Cd T_pithlaw09_Op := { e := 116, size := 5, bytes := 40, zero := T_pithlaw09_Op.zero, enc := T_pithlaw09_Op.enc, len := fun _ => rfl, one := by intro b u hu; simp only [T_pithlaw07_Bit.enc, T_pithlaw07_Held.enc, T_pithlaw07_Op.enc, T_pithlaw07_Pair.enc, T_pithlaw08_Ask.enc, T_pithlaw08_Plan.enc, T_pithlaw09_Op.enc, T_pithref09_Step.enc, List.mem_cons, List.mem_append, List.not_mem_nil, or_false] at hu; rcases hu with rfl|rfl|rfl|rfl|rfl <;> rfl }
instance bt_pithlaw09_Op : Bt cd_pithlaw09_Op 40 := ⟨rfl⟩
def cd_pithref09_Step : Cd T_pithref09_Step := { e := 175, size := 2, bytes := 16, zero := T_pithref09_Step.zero, enc := T_pithref09_Step.enc, len := fun _ => rfl, one := by intro b u hu; simp only [T_pithlaw07_Bit.enc, T_pithlaw07_Held.enc, T_pithlaw07_Op.enc, T_pithlaw07_Pair.enc, T_pithlaw08_Ask.enc, T_pithlaw08_Plan.enc, T_pithlaw09_Op.enc, T_pithref09_Step.enc, List.mem_cons, List.mem_append, List.not_mem_nil, or_false] at hu; rcases hu with rfl|rfl <;> rfl }
instance bt_pithref09_Step : Bt cd_pithref09_Step 16 := ⟨rfl⟩
theorem flat_uint8 (l : List UInt8) : cd_uint8.flat l = bvs l := cd_uint8.flat_single bv (fun _ => rfl) l
instance row_22 : Row Try.prog 22 Int cd_uint32 := ⟨⟨(.int .u32 0), ⟨Try.underlying22, info_parts (by kernel_rfl), rfl, by decide⟩, rfl⟩, by decide⟩
instance row_23 : Row Try.prog 23 Int cd_int := ⟨⟨(.int .i64 0), ⟨Try.underlying23, info_parts (by kernel_rfl), rfl, by decide⟩, rfl⟩, by decide⟩
instance row_29 : Row Try.prog 29 UInt8 cd_uint8 := ⟨⟨(.int .u8 0), ⟨Try.underlying29, info_parts (by kernel_rfl), rfl, by decide⟩, rfl⟩, by decide⟩
instance row_33 : Row Try.prog 33 T_pithlaw07_Bit cd_pithlaw07_Bit := ⟨⟨(.agg #[(.int .i64 0), (.bool false)]), ⟨Try.underlying33, info_parts (by kernel_rfl), rfl, by decide⟩, rfl⟩, by decide⟩
instance row_49 : Row Try.prog 49 T_pithlaw07_Op cd_pithlaw07_Op := ⟨⟨(.agg #[(.int .i64 0), (.int .i64 0), (.int .i64 0), (.int .i64 0), (.int .i64 0), (.int .u32 0), (.int .i64 0)]), ⟨Try.underlying49, info_parts (by kernel_rfl), rfl, by decide⟩, rfl⟩, by decide⟩
instance row_61 : Row Try.prog 61 T_pithlaw07_Pair cd_pithlaw07_Pair := ⟨⟨(.agg #[(.pointer none), (.pointer none)]), ⟨Try.underlying61, info_parts (by kernel_rfl), rfl, by decide⟩, rfl⟩, by decide⟩
instance row_62 : Row Try.prog 62 T_pithlaw07_Held cd_pithlaw07_Held := ⟨⟨(.agg #[(.slice none 0 0), (.int .i64 0), (.int .u8 0), (.string ⟨#[]⟩), (.bool false)]), ⟨Try.underlying62, info_parts (by kernel_rfl), rfl, by decide⟩, rfl⟩, by decide⟩
instance row_74 : Row Try.prog 74 T_pithlaw08_Ask cd_pithlaw08_Ask := ⟨⟨(.agg #[(.bool false), (.int .i64 0), (.int .i64 0), (.int .u32 0)]), ⟨Try.underlying74, info_parts (by kernel_rfl), rfl, by decide⟩, rfl⟩, by decide⟩
instance row_102 : Row Try.prog 102 Bool cd_bool := ⟨⟨(.bool false), ⟨Try.underlying102, info_parts (by kernel_rfl), rfl, by decide⟩, rfl⟩, by decide⟩
instance row_110 : Row Try.prog 110 T_pithlaw09_Op cd_pithlaw09_Op := ⟨⟨(.agg #[(.int .i64 0), (.int .i64 0), (.int .i64 0), (.int .i64 0), (.int .i64 0)]), ⟨Try.underlying110, info_parts (by kernel_rfl), rfl, by decide⟩, rfl⟩, by decide⟩
instance row_120 : Row Try.prog 120 (Sl × List UInt8) cd_sl_uint8 := ⟨⟨(.slice none 0 0), ⟨Try.underlying120, info_parts (by kernel_rfl), rfl, by decide⟩, rfl⟩, by decide⟩
instance row_127 : Row Try.prog 127 (Option Addr) cd_p_prob_Set := ⟨⟨(.pointer none), ⟨Try.underlying127, info_parts (by kernel_rfl), rfl, by decide⟩, rfl⟩, by decide⟩
instance row_128 : Row Try.prog 128 (Option Addr) cd_p_pithref06_Set := ⟨⟨(.pointer none), ⟨Try.underlying128, info_parts (by kernel_rfl), rfl, by decide⟩, rfl⟩, by decide⟩
instance row_171 : Row Try.prog 171 T_pithref09_Step cd_pithref09_Step := ⟨⟨(.agg #[(.int .i64 0), (.int .i64 0)]), ⟨Try.underlying171, info_parts (by kernel_rfl), rfl, by decide⟩, rfl⟩, by decide⟩
section
variable [Pan] {w : World} {K : Value → World → Prop} {J : Value → Prop}
instance fa_38_0 : FA Try.prog 38 0 0 := ⟨fun a w => by kernel_rfl⟩
instance fa_38_1 : FA Try.prog 38 1 1 := ⟨fun a w => by kernel_rfl⟩
instance fa_54_0 : FA Try.prog 54 0 0 := ⟨fun a w => by kernel_rfl⟩
instance fa_54_1 : FA Try.prog 54 1 2 := ⟨fun a w => by kernel_rfl⟩
instance fa_60_0 : FA Try.prog 60 0 0 := ⟨fun a w => by kernel_rfl⟩
instance fa_60_1 : FA Try.prog 60 1 1 := ⟨fun a w => by kernel_rfl⟩
instance fa_64_0 : FA Try.prog 64 0 0 := ⟨fun a w => by kernel_rfl⟩
instance fa_64_1 : FA Try.prog 64 1 1 := ⟨fun a w => by kernel_rfl⟩
instance fa_64_2 : FA Try.prog 64 2 2 := ⟨fun a w => by kernel_rfl⟩
instance fa_64_3 : FA Try.prog 64 3 3 := ⟨fun a w => by kernel_rfl⟩
instance fa_64_4 : FA Try.prog 64 4 4 := ⟨fun a w => by kernel_rfl⟩
instance fa_64_5 : FA Try.prog 64 5 5 := ⟨fun a w => by kernel_rfl⟩
instance fa_64_6 : FA Try.prog 64 6 6 := ⟨fun a w => by kernel_rfl⟩
instance fa_68_0 : FA Try.prog 68 0 0 := ⟨fun a w => by kernel_rfl⟩
instance fa_68_1 : FA Try.prog 68 1 1 := ⟨fun a w => by kernel_rfl⟩
instance fa_68_2 : FA Try.prog 68 2 2 := ⟨fun a w => by kernel_rfl⟩
instance fa_68_3 : FA Try.prog 68 3 3 := ⟨fun a w => by kernel_rfl⟩
instance fa_68_4 : FA Try.prog 68 4 4 := ⟨fun a w => by kernel_rfl⟩
instance fa_87_0 : FA Try.prog 87 0 0 := ⟨fun a w => by kernel_rfl⟩
instance fa_87_1 : FA Try.prog 87 1 1 := ⟨fun a w => by kernel_rfl⟩
instance fa_87_2 : FA Try.prog 87 2 2 := ⟨fun a w => by kernel_rfl⟩
instance fa_87_3 : FA Try.prog 87 3 3 := ⟨fun a w => by kernel_rfl⟩
instance fa_98_0 : FA Try.prog 98 0 0 := ⟨fun a w => by kernel_rfl⟩
instance fa_98_1 : FA Try.prog 98 1 1 := ⟨fun a w => by kernel_rfl⟩
instance fa_116_0 : FA Try.prog 116 0 0 := ⟨fun a w => by kernel_rfl⟩
instance fa_116_1 : FA Try.prog 116 1 1 := ⟨fun a w => by kernel_rfl⟩
instance fa_116_2 : FA Try.prog 116 2 2 := ⟨fun a w => by kernel_rfl⟩
instance fa_116_3 : FA Try.prog 116 3 3 := ⟨fun a w => by kernel_rfl⟩
instance fa_116_4 : FA Try.prog 116 4 4 := ⟨fun a w => by kernel_rfl⟩
instance fa_130_0 : FA Try.prog 130 0 0 := ⟨fun a w => by kernel_rfl⟩
instance fa_130_1 : FA Try.prog 130 1 1 := ⟨fun a w => by kernel_rfl⟩
instance fa_133_0 : FA Try.prog 133 0 0 := ⟨fun a w => by kernel_rfl⟩
instance fa_133_1 : FA Try.prog 133 1 1 := ⟨fun a w => by kernel_rfl⟩
instance fa_133_2 : FA Try.prog 133 2 2 := ⟨fun a w => by kernel_rfl⟩
instance fa_133_3 : FA Try.prog 133 3 3 := ⟨fun a w => by kernel_rfl⟩
instance fa_133_4 : FA Try.prog 133 4 4 := ⟨fun a w => by kernel_rfl⟩
instance fa_137_0 : FA Try.prog 137 0 0 := ⟨fun a w => by kernel_rfl⟩
instance fa_139_0 : FA Try.prog 139 0 0 := ⟨fun a w => by kernel_rfl⟩
instance fa_139_1 : FA Try.prog 139 1 1 := ⟨fun a w => by kernel_rfl⟩
instance fa_139_2 : FA Try.prog 139 2 2 := ⟨fun a w => by kernel_rfl⟩
instance fa_145_0 : FA Try.prog 145 0 0 := ⟨fun a w => by kernel_rfl⟩
instance fa_145_1 : FA Try.prog 145 1 1 := ⟨fun a w => by kernel_rfl⟩
instance fa_147_0 : FA Try.prog 147 0 0 := ⟨fun a w => by kernel_rfl⟩
instance fa_147_1 : FA Try.prog 147 1 1 := ⟨fun a w => by kernel_rfl⟩
instance fa_147_2 : FA Try.prog 147 2 2 := ⟨fun a w => by kernel_rfl⟩
instance fa_149_0 : FA Try.prog 149 0 0 := ⟨fun a w => by kernel_rfl⟩
instance fa_149_1 : FA Try.prog 149 1 1 := ⟨fun a w => by kernel_rfl⟩
instance fa_151_0 : FA Try.prog 151 0 0 := ⟨fun a w => by kernel_rfl⟩
instance fa_151_1 : FA Try.prog 151 1 1 := ⟨fun a w => by kernel_rfl⟩
instance fa_151_2 : FA Try.prog 151 2 2 := ⟨fun a w => by kernel_rfl⟩
instance fa_151_3 : FA Try.prog 151 3 3 := ⟨fun a w => by kernel_rfl⟩
instance fa_175_0 : FA Try.prog 175 0 0 := ⟨fun a w => by kernel_rfl⟩
instance fa_175_1 : FA Try.prog 175 1 1 := ⟨fun a w => by kernel_rfl⟩
instance tob_3_5 : ToB Try.prog 3 5 := ⟨fun _ k n => run_conv_int k Try.underlying3 Try.underlying5 n⟩
instance ofb_5_3 : OfB Try.prog 5 3 .i64 := ⟨fun _ k n => run_conv_int k Try.underlying5 Try.underlying3 n, fun n h1 h2 => wrap_i64 (by omega)⟩
instance ofb_5_26 : OfB Try.prog 5 26 .u32 := ⟨fun _ k n => run_conv_int k Try.underlying5 Try.underlying26 n, fun n h1 h2 => w_u32 (by omega)⟩
instance ofb_5_131 : OfB Try.prog 5 131 .u64 := ⟨fun _ k n => run_conv_int k Try.underlying5 Try.underlying131 n, fun n h1 h2 => w_u64 (by omega)⟩
instance strt_29_9 : StrT Try.prog 29 9 cd_uint8 := ⟨⟨_, Try.underlying29, Try.underlying5⟩, Try.underlying9, rfl, fun _ => rfl⟩
instance tob_131_5 : ToB Try.prog 131 5 := ⟨fun _ k n => run_conv_int k Try.underlying131 Try.underlying5 n⟩
theorem pN_shl_26_u64_1 (xo yo : Operand) (a : Int) : pN Try.prog (oBin .shl 26 xo yo (.int .u32 a) (.int .u64 1)) w K = K (.int .u32 (IntKind.wrap .u32 (a * 2))) w := pN_shln 1 1 2 rfl (by decide) (by decide)
theorem pA_shl_26_u64_1 (xo yo : Operand) (a : Int) : pA Try.prog (oBin .shl 26 xo yo (.int .u32 a) (.int .u64 1)) J = J (.int .u32 (IntKind.wrap .u32 (a * 2))) := pA_shln 1 1 2 rfl (by decide) (by decide)
theorem pN_shl_26_u64_8 (xo yo : Operand) (a : Int) : pN Try.prog (oBin .shl 26 xo yo (.int .u32 a) (.int .u64 8)) w K = K (.int .u32 (IntKind.wrap .u32 (a * 256))) w := pN_shln 8 8 256 rfl (by decide) (by decide)
theorem pA_shl_26_u64_8 (xo yo : Operand) (a : Int) : pA Try.prog (oBin .shl 26 xo yo (.int .u32 a) (.int .u64 8)) J = J (.int .u32 (IntKind.wrap .u32 (a * 256))) := pA_shln 8 8 256 rfl (by decide) (by decide)
theorem pN_shl_131_u64_8 (xo yo : Operand) (a : Int) : pN Try.prog (oBin .shl 131 xo yo (.int .u64 a) (.int .u64 8)) w K = K (.int .u64 (IntKind.wrap .u64 (a * 256))) w := pN_shln 8 8 256 rfl (by decide) (by decide)
theorem pA_shl_131_u64_8 (xo yo : Operand) (a : Int) : pA Try.prog (oBin .shl 131 xo yo (.int .u64 a) (.int .u64 8)) J = J (.int .u64 (IntKind.wrap .u64 (a * 256))) := pA_shln 8 8 256 rfl (by decide) (by decide)
theorem pN_shr_3_u64_5 (xo yo : Operand) (a : Int) : pN Try.prog (oBin .shr 3 xo yo (.int .i64 a) (.int .u64 5)) w K = K (.int .i64 (a / 32)) w := pN_shrn 5 5 32 rfl (by decide) (by decide)
theorem pA_shr_3_u64_5 (xo yo : Operand) (a : Int) : pA Try.prog (oBin .shr 3 xo yo (.int .i64 a) (.int .u64 5)) J = J (.int .i64 (a / 32)) := pA_shrn 5 5 32 rfl (by decide) (by decide)
theorem pN_shr_26_u64_11 (xo yo : Operand) (a : Int) : pN Try.prog (oBin .shr 26 xo yo (.int .u32 a) (.int .u64 11)) w K = K (.int .u32 (a / 2048)) w := pN_shrn 11 11 2048 rfl (by decide) (by decide)
theorem pA_shr_26_u64_11 (xo yo : Operand) (a : Int) : pA Try.prog (oBin .shr 26 xo yo (.int .u32 a) (.int .u64 11)) J = J (.int .u32 (a / 2048)) := pA_shrn 11 11 2048 rfl (by decide) (by decide)
theorem pN_shr_131_u64_24 (xo yo : Operand) (a : Int) : pN Try.prog (oBin .shr 131 xo yo (.int .u64 a) (.int .u64 24)) w K = K (.int .u64 (a / 16777216)) w := pN_shrn 24 24 16777216 rfl (by decide) (by decide)
theorem pA_shr_131_u64_24 (xo yo : Operand) (a : Int) : pA Try.prog (oBin .shr 131 xo yo (.int .u64 a) (.int .u64 24)) J = J (.int .u64 (a / 16777216)) := pA_shrn 24 24 16777216 rfl (by decide) (by decide)
theorem pN_shr_131_u64_32 (xo yo : Operand) (a : Int) : pN Try.prog (oBin .shr 131 xo yo (.int .u64 a) (.int .u64 32)) w K = K (.int .u64 (a / 4294967296)) w := pN_shrn 32 32 4294967296 rfl (by decide) (by decide)
theorem pA_shr_131_u64_32 (xo yo : Operand) (a : Int) : pA Try.prog (oBin .shr 131 xo yo (.int .u64 a) (.int .u64 32)) J = J (.int .u64 (a / 4294967296)) := pA_shrn 32 32 4294967296 rfl (by decide) (by decide)
theorem pN_and_3_1 (xo yo : Operand) (a : Int) : pN Try.prog (oBin .and 3 xo yo (.int .i64 a) (.int .i64 1)) w K = K (.int .i64 (a % 2)) w := pN_andn 1 1 2 rfl rfl (by decide) (wrap_i64 (by omega))
theorem pA_and_3_1 (xo yo : Operand) (a : Int) : pA Try.prog (oBin .and 3 xo yo (.int .i64 a) (.int .i64 1)) J = J (.int .i64 (a % 2)) := pA_andn 1 1 2 rfl rfl (by decide) (wrap_i64 (by omega))
theorem pN_and_26_1 (xo yo : Operand) (a : Int) : pN Try.prog (oBin .and 26 xo yo (.int .u32 a) (.int .u32 1)) w K = K (.int .u32 (a % 2)) w := pN_andn 1 1 2 rfl rfl (by decide) (w_u32 (by omega))
theorem pA_and_26_1 (xo yo : Operand) (a : Int) : pA Try.prog (oBin .and 26 xo yo (.int .u32 a) (.int .u32 1)) J = J (.int .u32 (a % 2)) := pA_andn 1 1 2 rfl rfl (by decide) (w_u32 (by omega))
theorem pN_and_131_16777215 (xo yo : Operand) (a : Int) : pN Try.prog (oBin .and 131 xo yo (.int .u64 a) (.int .u64 16777215)) w K = K (.int .u64 (a % 16777216)) w := pN_andn 24 16777215 16777216 rfl rfl (by decide) (w_u64 (by omega))
theorem pA_and_131_16777215 (xo yo : Operand) (a : Int) : pA Try.prog (oBin .and 131 xo yo (.int .u64 a) (.int .u64 16777215)) J = J (.int .u64 (a % 16777216)) := pA_andn 24 16777215 16777216 rfl rfl (by decide) (w_u64 (by omega))
theorem run_bld_60_0_1 (x0 : Option Addr) (x1 : Option Addr) (w : World) : (oBuild 60 [(0, .pointer x0), (1, .pointer x1)]).run Try.prog w = .ok (.value (.agg #[(.pointer x0), (.pointer x1)])) w := by kernel_rfl
theorem pN_bld_60_0_1 (x0 : Option Addr) (x1 : Option Addr) : pN Try.prog (oBuild 60 [(0, .pointer x0), (1, .pointer x1)]) w K = K (.agg #[(.pointer x0), (.pointer x1)]) w := by rw [pN_def, run_bld_60_0_1, rN_value]
theorem run_bld_68_0_1_2_3_4 (x0 : Option Addr) (x0n x0c : Nat) (x1 : Int) (x2 : UInt8) (x3 : ByteArray) (x4 : Bool) (w : World) : (oBuild 68 [(0, .slice x0 x0n x0c), (1, .int .i64 x1), (2, bv x2), (3, .string x3), (4, .bool x4)]).run Try.prog w = .ok (.value (.agg #[(.slice x0 x0n x0c), (.int .i64 x1), (bv x2), (.string x3), (.bool x4)])) w := by kernel_rfl
theorem pN_bld_68_0_1_2_3_4 (x0 : Option Addr) (x0n x0c : Nat) (x1 : Int) (x2 : UInt8) (x3 : ByteArray) (x4 : Bool) : pN Try.prog (oBuild 68 [(0, .slice x0 x0n x0c), (1, .int .i64 x1), (2, bv x2), (3, .string x3), (4, .bool x4)]) w K = K (.agg #[(.slice x0 x0n x0c), (.int .i64 x1), (bv x2), (.string x3), (.bool x4)]) w := by rw [pN_def, run_bld_68_0_1_2_3_4, rN_value]
theorem run_bld_130_  (w : World) : (oBuild 130 []).run Try.prog w = .ok (.value (.agg #[(.slice none 0 0), (.slice none 0 0)])) w := by kernel_rfl
theorem pN_bld_130_  : pN Try.prog (oBuild 130 []) w K = K (.agg #[(.slice none 0 0), (.slice none 0 0)]) w := by rw [pN_def, run_bld_130_, rN_value]
theorem run_bld_133_1 (x1 : Int) (w : World) : (oBuild 133 [(1, .int .u32 x1)]).run Try.prog w = .ok (.value (.agg #[(.int .u64 0), (.int .u32 x1), (bv 0), (.int .i64 0), (.slice none 0 0)])) w := by kernel_rfl
theorem pN_bld_133_1 (x1 : Int) : pN Try.prog (oBuild 133 [(1, .int .u32 x1)]) w K = K (.agg #[(.int .u64 0), (.int .u32 x1), (bv 0), (.int .i64 0), (.slice none 0 0)]) w := by rw [pN_def, run_bld_133_1, rN_value]
theorem run_bld_137_0 (x0 : Option Addr) (x0n x0c : Nat) (w : World) : (oBuild 137 [(0, .slice x0 x0n x0c)]).run Try.prog w = .ok (.value (.agg #[(.slice x0 x0n x0c)])) w := by kernel_rfl
theorem pN_bld_137_0 (x0 : Option Addr) (x0n x0c : Nat) : pN Try.prog (oBuild 137 [(0, .slice x0 x0n x0c)]) w K = K (.agg #[(.slice x0 x0n x0c)]) w := by rw [pN_def, run_bld_137_0, rN_value]
theorem run_bld_139_0_1 (x0 : Option Addr) (x0n x0c : Nat) (x1 : Int) (w : World) : (oBuild 139 [(0, .slice x0 x0n x0c), (1, .int .u32 x1)]).run Try.prog w = .ok (.value (.agg #[(.slice x0 x0n x0c), (.int .u32 x1), (.int .i64 0)])) w := by kernel_rfl
theorem pN_bld_139_0_1 (x0 : Option Addr) (x0n x0c : Nat) (x1 : Int) : pN Try.prog (oBuild 139 [(0, .slice x0 x0n x0c), (1, .int .u32 x1)]) w K = K (.agg #[(.slice x0 x0n x0c), (.int .u32 x1), (.int .i64 0)]) w := by rw [pN_def, run_bld_139_0_1, rN_value]
theorem run_bld_139_0_1_2 (x0 : Option Addr) (x0n x0c : Nat) (x1 : Int) (x2 : Int) (w : World) : (oBuild 139 [(0, .slice x0 x0n x0c), (1, .int .u32 x1), (2, .int .i64 x2)]).run Try.prog w = .ok (.value (.agg #[(.slice x0 x0n x0c), (.int .u32 x1), (.int .i64 x2)])) w := by kernel_rfl
theorem pN_bld_139_0_1_2 (x0 : Option Addr) (x0n x0c : Nat) (x1 : Int) (x2 : Int) : pN Try.prog (oBuild 139 [(0, .slice x0 x0n x0c), (1, .int .u32 x1), (2, .int .i64 x2)]) w K = K (.agg #[(.slice x0 x0n x0c), (.int .u32 x1), (.int .i64 x2)]) w := by rw [pN_def, run_bld_139_0_1_2, rN_value]
theorem run_bld_145_0_1 (x0 : Int) (x1 : Option Addr) (x1n x1c : Nat) (w : World) : (oBuild 145 [(0, .int .i64 x0), (1, .slice x1 x1n x1c)]).run Try.prog w = .ok (.value (.agg #[(.int .i64 x0), (.slice x1 x1n x1c)])) w := by kernel_rfl
theorem pN_bld_145_0_1 (x0 : Int) (x1 : Option Addr) (x1n x1c : Nat) : pN Try.prog (oBuild 145 [(0, .int .i64 x0), (1, .slice x1 x1n x1c)]) w K = K (.agg #[(.int .i64 x0), (.slice x1 x1n x1c)]) w := by rw [pN_def, run_bld_145_0_1, rN_value]
theorem run_bld_147_0_1 (x0 : Int) (x1 : Int) (w : World) : (oBuild 147 [(0, .int .i64 x0), (1, .int .u32 x1)]).run Try.prog w = .ok (.value (.agg #[(.int .i64 x0), (.int .u32 x1), (.int .u32 0)])) w := by kernel_rfl
theorem pN_bld_147_0_1 (x0 : Int) (x1 : Int) : pN Try.prog (oBuild 147 [(0, .int .i64 x0), (1, .int .u32 x1)]) w K = K (.agg #[(.int .i64 x0), (.int .u32 x1), (.int .u32 0)]) w := by rw [pN_def, run_bld_147_0_1, rN_value]
theorem run_bld_151_1_2_3 (x1 : Int) (x2 : Int) (x3 : Int) (w : World) : (oBuild 151 [(1, .int .i64 x1), (2, .int .i64 x2), (3, .int .i64 x3)]).run Try.prog w = .ok (.value (.agg #[(.slice none 0 0), (.int .i64 x1), (.int .i64 x2), (.int .i64 x3)])) w := by kernel_rfl
theorem pN_bld_151_1_2_3 (x1 : Int) (x2 : Int) (x3 : Int) : pN Try.prog (oBuild 151 [(1, .int .i64 x1), (2, .int .i64 x2), (3, .int .i64 x3)]) w K = K (.agg #[(.slice none 0 0), (.int .i64 x1), (.int .i64 x2), (.int .i64 x3)]) w := by rw [pN_def, run_bld_151_1_2_3, rN_value]
theorem run_bld_175_0_1 (x0 : Int) (x1 : Int) (w : World) : (oBuild 175 [(0, .int .i64 x0), (1, .int .i64 x1)]).run Try.prog w = .ok (.value (.agg #[(.int .i64 x0), (.int .i64 x1)])) w := by kernel_rfl
theorem pN_bld_175_0_1 (x0 : Int) (x1 : Int) : pN Try.prog (oBuild 175 [(0, .int .i64 x0), (1, .int .i64 x1)]) w K = K (.agg #[(.int .i64 x0), (.int .i64 x1)]) w := by rw [pN_def, run_bld_175_0_1, rN_value]
theorem run_bld_43_0_1_2_3 (x0 : Int) (x1 : Int) (x2 : Int) (x3 : Int) (w : World) : (oBuild 43 [(0, .int .i64 x0), (1, .int .i64 x1), (2, .int .i64 x2), (3, .int .i64 x3)]).run Try.prog w = .ok (.value (.agg #[(.int .i64 x0), (.int .i64 x1), (.int .i64 x2), (.int .i64 x3)])) w := by kernel_rfl
theorem pN_bld_43_0_1_2_3 (x0 : Int) (x1 : Int) (x2 : Int) (x3 : Int) : pN Try.prog (oBuild 43 [(0, .int .i64 x0), (1, .int .i64 x1), (2, .int .i64 x2), (3, .int .i64 x3)]) w K = K (.agg #[(.int .i64 x0), (.int .i64 x1), (.int .i64 x2), (.int .i64 x3)]) w := by rw [pN_def, run_bld_43_0_1_2_3, rN_value]
end
attribute [go_sem] pN_shl_26_u64_1 pA_shl_26_u64_1 pN_shl_26_u64_8 pA_shl_26_u64_8 pN_shl_131_u64_8 pA_shl_131_u64_8 pN_shr_3_u64_5 pA_shr_3_u64_5 pN_shr_26_u64_11 pA_shr_26_u64_11 pN_shr_131_u64_24 pA_shr_131_u64_24 pN_shr_131_u64_32 pA_shr_131_u64_32 pN_and_3_1 pA_and_3_1 pN_and_26_1 pA_and_26_1 pN_and_131_16777215 pA_and_131_16777215 pN_bld_60_0_1 pN_bld_68_0_1_2_3_4 pN_bld_130_ pN_bld_133_1 pN_bld_137_0 pN_bld_139_0_1 pN_bld_139_0_1_2 pN_bld_145_0_1 pN_bld_147_0_1 pN_bld_151_1_2_3 pN_bld_175_0_1 pN_bld_43_0_1_2_3
theorem cells_3 : Try.prog.cellsOf 3 = 1 := by kernel_rfl
theorem bytes_3 : Try.prog.bytesOf 3 = 8 := by kernel_rfl
theorem cells_4 : Try.prog.cellsOf 4 = 1 := by kernel_rfl
theorem bytes_4 : Try.prog.bytesOf 4 = 1 := by kernel_rfl
theorem cells_5 : Try.prog.cellsOf 5 = 1 := by kernel_rfl
theorem bytes_5 : Try.prog.bytesOf 5 = 1 := by kernel_rfl
theorem cells_9 : Try.prog.cellsOf 9 = 1 := by kernel_rfl
theorem bytes_9 : Try.prog.bytesOf 9 = 16 := by kernel_rfl
theorem cells_22 : Try.prog.cellsOf 22 = 1 := by kernel_rfl
theorem bytes_22 : Try.prog.bytesOf 22 = 24 := by kernel_rfl
theorem cells_23 : Try.prog.cellsOf 23 = 1 := by kernel_rfl
theorem bytes_23 : Try.prog.bytesOf 23 = 24 := by kernel_rfl
theorem cells_26 : Try.prog.cellsOf 26 = 1 := by kernel_rfl
theorem bytes_26 : Try.prog.bytesOf 26 = 4 := by kernel_rfl
theorem cells_27 : Try.prog.cellsOf 27 = 1 := by kernel_rfl
theorem bytes_27 : Try.prog.bytesOf 27 = 8 := by kernel_rfl
theorem cells_29 : Try.prog.cellsOf 29 = 1 := by kernel_rfl
theorem bytes_29 : Try.prog.bytesOf 29 = 24 := by kernel_rfl
theorem cells_33 : Try.prog.cellsOf 33 = 1 := by kernel_rfl
theorem bytes_33 : Try.prog.bytesOf 33 = 24 := by kernel_rfl
theorem cells_38 : Try.prog.cellsOf 38 = 2 := by kernel_rfl
theorem bytes_38 : Try.prog.bytesOf 38 = 16 := by kernel_rfl
theorem cells_49 : Try.prog.cellsOf 49 = 1 := by kernel_rfl
theorem bytes_49 : Try.prog.bytesOf 49 = 24 := by kernel_rfl
theorem cells_62 : Try.prog.cellsOf 62 = 1 := by kernel_rfl
theorem bytes_62 : Try.prog.bytesOf 62 = 24 := by kernel_rfl
theorem cells_64 : Try.prog.cellsOf 64 = 7 := by kernel_rfl
theorem bytes_64 : Try.prog.bytesOf 64 = 56 := by kernel_rfl
theorem cells_68 : Try.prog.cellsOf 68 = 5 := by kernel_rfl
theorem bytes_68 : Try.prog.bytesOf 68 = 64 := by kernel_rfl
theorem cells_74 : Try.prog.cellsOf 74 = 1 := by kernel_rfl
theorem bytes_74 : Try.prog.bytesOf 74 = 24 := by kernel_rfl
theorem cells_87 : Try.prog.cellsOf 87 = 4 := by kernel_rfl
theorem bytes_87 : Try.prog.bytesOf 87 = 32 := by kernel_rfl
theorem cells_98 : Try.prog.cellsOf 98 = 2 := by kernel_rfl
theorem bytes_98 : Try.prog.bytesOf 98 = 32 := by kernel_rfl
theorem cells_102 : Try.prog.cellsOf 102 = 1 := by kernel_rfl
theorem bytes_102 : Try.prog.bytesOf 102 = 24 := by kernel_rfl
theorem cells_110 : Try.prog.cellsOf 110 = 1 := by kernel_rfl
theorem bytes_110 : Try.prog.bytesOf 110 = 24 := by kernel_rfl
theorem cells_116 : Try.prog.cellsOf 116 = 5 := by kernel_rfl
theorem bytes_116 : Try.prog.bytesOf 116 = 40 := by kernel_rfl
theorem piece (cs : List Value) (o s : Nat) : cs.drop o = (cs.drop o).take s ++ cs.drop (o + s) := by rw [← List.drop_drop, List.take_append_drop]
def T_pithlaw07_Bit.ok (W : World) (b : T_pithlaw07_Bit) (k : Nat) : Prop := (-9223372036854775808 ≤ b.I ∧ b.I < 9223372036854775808) ∧ True
theorem opn_pithlaw07_Bit (W : World) : Opn Try.prog W 38 T_pithlaw07_Bit.enc (T_pithlaw07_Bit.ok W) := by
  refine ⟨fun {H} en fuel cs x hx hw => ?_⟩
  obtain ⟨xs, n, _, rfl, hl, hlen, hf⟩ := DataW.trod_struct Try.underlying38 hx
  have hlen : xs.length = 2 := hlen
  rw [cells_38] at hl
  obtain ⟨b0, e0, k0, m0, o0⟩ := opn_field Try.underlying38 hw hf 0 3 0 1 ⟨_, rfl, rfl, rfl⟩ cells_3 (by omega) (opn_i64 Try.underlying3)
  have q0 := piece cs 0 1
  rw [e0] at q0
  obtain ⟨b1, e1, k1, m1, o1⟩ := opn_field Try.underlying38 hw hf 1 4 1 1 ⟨_, rfl, rfl, rfl⟩ cells_4 (by omega) (opn_bool Try.underlying4)
  have q1 := piece cs 1 1
  rw [e1] at q1
  have hz : cs.drop 2 = [] := List.drop_of_length_le (by omega)
  refine ⟨⟨b0, b1⟩, ?_, ⟨o0, o1⟩⟩
  have q : cs.drop 0 = _ := q0
  simp only [Nat.zero_add, Nat.reduceAdd, hz, List.drop_zero] at q q1
  rw [q1] at q
  exact q
def T_pithlaw07_Op.ok (W : World) (b : T_pithlaw07_Op) (k : Nat) : Prop := (-9223372036854775808 ≤ b.Kind ∧ b.Kind < 9223372036854775808) ∧ (-9223372036854775808 ≤ b.f_E ∧ b.f_E < 9223372036854775808) ∧ (-9223372036854775808 ≤ b.S ∧ b.S < 9223372036854775808) ∧ (-9223372036854775808 ≤ b.I ∧ b.I < 9223372036854775808) ∧ (-9223372036854775808 ≤ b.Bit ∧ b.Bit < 9223372036854775808) ∧ (0 ≤ b.V ∧ b.V < 4294967296) ∧ (-9223372036854775808 ≤ b.N ∧ b.N < 9223372036854775808)
theorem opn_pithlaw07_Op (W : World) : Opn Try.prog W 64 T_pithlaw07_Op.enc (T_pithlaw07_Op.ok W) := by
  refine ⟨fun {H} en fuel cs x hx hw => ?_⟩
  obtain ⟨xs, n, _, rfl, hl, hlen, hf⟩ := DataW.trod_struct Try.underlying64 hx
  have hlen : xs.length = 7 := hlen
  rw [cells_64] at hl
  obtain ⟨b0, e0, k0, m0, o0⟩ := opn_field Try.underlying64 hw hf 0 3 0 1 ⟨_, rfl, rfl, rfl⟩ cells_3 (by omega) (opn_i64 Try.underlying3)
  have q0 := piece cs 0 1
  rw [e0] at q0
  obtain ⟨b1, e1, k1, m1, o1⟩ := opn_field Try.underlying64 hw hf 1 3 1 1 ⟨_, rfl, rfl, rfl⟩ cells_3 (by omega) (opn_i64 Try.underlying3)
  have q1 := piece cs 1 1
  rw [e1] at q1
  obtain ⟨b2, e2, k2, m2, o2⟩ := opn_field Try.underlying64 hw hf 2 3 2 1 ⟨_, rfl, rfl, rfl⟩ cells_3 (by omega) (opn_i64 Try.underlying3)
  have q2 := piece cs 2 1
  rw [e2] at q2
  obtain ⟨b3, e3, k3, m3, o3⟩ := opn_field Try.underlying64 hw hf 3 3 3 1 ⟨_, rfl, rfl, rfl⟩ cells_3 (by omega) (opn_i64 Try.underlying3)
  have q3 := piece cs 3 1
  rw [e3] at q3
  obtain ⟨b4, e4, k4, m4, o4⟩ := opn_field Try.underlying64 hw hf 4 3 4 1 ⟨_, rfl, rfl, rfl⟩ cells_3 (by omega) (opn_i64 Try.underlying3)
  have q4 := piece cs 4 1
  rw [e4] at q4
  obtain ⟨b5, e5, k5, m5, o5⟩ := opn_field Try.underlying64 hw hf 5 26 5 1 ⟨_, rfl, rfl, rfl⟩ cells_26 (by omega) (opn_u32 Try.underlying26)
  have q5 := piece cs 5 1
  rw [e5] at q5
  obtain ⟨b6, e6, k6, m6, o6⟩ := opn_field Try.underlying64 hw hf 6 3 6 1 ⟨_, rfl, rfl, rfl⟩ cells_3 (by omega) (opn_i64 Try.underlying3)
  have q6 := piece cs 6 1
  rw [e6] at q6
  have hz : cs.drop 7 = [] := List.drop_of_length_le (by omega)
  refine ⟨⟨b0, b1, b2, b3, b4, b5, b6⟩, ?_, ⟨o0, o1, o2, o3, o4, o5, o6⟩⟩
  have q : cs.drop 0 = _ := q0
  simp only [Nat.zero_add, Nat.reduceAdd, hz, List.drop_zero] at q q1 q2 q3 q4 q5 q6
  rw [q1] at q
  rw [q2] at q
  rw [q3] at q
  rw [q4] at q
  rw [q5] at q
  rw [q6] at q
  exact q
def T_pithlaw07_Held.ok (W : World) (b : T_pithlaw07_Held) (k : Nat) : Prop := (∃ k', k' ≤ k ∧ (RdP cd_uint8 (old W) b.B.1 b.B.2 ∧ b.B.2.length * 1 ≤ reachBytes ∧ b.B.2.length + 1 ≤ k' ∧ ∀ c0 ∈ b.B.2, ∃ k0, k0 ≤ k' ∧ True)) ∧ (-9223372036854775808 ≤ b.N ∧ b.N < 9223372036854775808) ∧ True ∧ (∃ k', k' ≤ k ∧ (b.Want.length ≤ reachBytes ∧ b.Want.length + 1 ≤ k')) ∧ True
theorem opn_pithlaw07_Held (W : World) : Opn Try.prog W 68 T_pithlaw07_Held.enc (T_pithlaw07_Held.ok W) := by
  refine ⟨fun {H} en fuel cs x hx hw => ?_⟩
  obtain ⟨xs, n, _, rfl, hl, hlen, hf⟩ := DataW.trod_struct Try.underlying68 hx
  have hlen : xs.length = 5 := hlen
  rw [cells_68] at hl
  obtain ⟨b0, e0, k0, m0, o0⟩ := opn_field Try.underlying68 hw hf 0 29 0 1 ⟨_, rfl, rfl, rfl⟩ cells_29 (by omega) (opn_slice (C := cd_uint8) Try.underlying29 cells_5 bytes_5 (opn_u8 Try.underlying5))
  have q0 := piece cs 0 1
  rw [e0] at q0
  obtain ⟨b1, e1, k1, m1, o1⟩ := opn_field Try.underlying68 hw hf 1 3 1 1 ⟨_, rfl, rfl, rfl⟩ cells_3 (by omega) (opn_i64 Try.underlying3)
  have q1 := piece cs 1 1
  rw [e1] at q1
  obtain ⟨b2, e2, k2, m2, o2⟩ := opn_field Try.underlying68 hw hf 2 5 2 1 ⟨_, rfl, rfl, rfl⟩ cells_5 (by omega) (opn_u8 Try.underlying5)
  have q2 := piece cs 2 1
  rw [e2] at q2
  obtain ⟨b3, e3, k3, m3, o3⟩ := opn_field Try.underlying68 hw hf 3 9 3 1 ⟨_, rfl, rfl, rfl⟩ cells_9 (by omega) (opn_str Try.underlying9)
  have q3 := piece cs 3 1
  rw [e3] at q3
  obtain ⟨b4, e4, k4, m4, o4⟩ := opn_field Try.underlying68 hw hf 4 4 4 1 ⟨_, rfl, rfl, rfl⟩ cells_4 (by omega) (opn_bool Try.underlying4)
  have q4 := piece cs 4 1
  rw [e4] at q4
  have hz : cs.drop 5 = [] := List.drop_of_length_le (by omega)
  refine ⟨⟨b0, b1, b2, b3, b4⟩, ?_, ⟨⟨_, m0, o0⟩, o1, o2, ⟨_, m3, o3⟩, o4⟩⟩
  have q : cs.drop 0 = _ := q0
  simp only [Nat.zero_add, Nat.reduceAdd, hz, List.drop_zero] at q q1 q2 q3 q4
  rw [q1] at q
  rw [q2] at q
  rw [q3] at q
  rw [q4] at q
  exact q
def T_pithlaw08_Ask.ok (W : World) (b : T_pithlaw08_Ask) (k : Nat) : Prop := True ∧ (-9223372036854775808 ≤ b.I ∧ b.I < 9223372036854775808) ∧ (-9223372036854775808 ≤ b.N ∧ b.N < 9223372036854775808) ∧ (0 ≤ b.V ∧ b.V < 4294967296)
theorem opn_pithlaw08_Ask (W : World) : Opn Try.prog W 87 T_pithlaw08_Ask.enc (T_pithlaw08_Ask.ok W) := by
  refine ⟨fun {H} en fuel cs x hx hw => ?_⟩
  obtain ⟨xs, n, _, rfl, hl, hlen, hf⟩ := DataW.trod_struct Try.underlying87 hx
  have hlen : xs.length = 4 := hlen
  rw [cells_87] at hl
  obtain ⟨b0, e0, k0, m0, o0⟩ := opn_field Try.underlying87 hw hf 0 4 0 1 ⟨_, rfl, rfl, rfl⟩ cells_4 (by omega) (opn_bool Try.underlying4)
  have q0 := piece cs 0 1
  rw [e0] at q0
  obtain ⟨b1, e1, k1, m1, o1⟩ := opn_field Try.underlying87 hw hf 1 3 1 1 ⟨_, rfl, rfl, rfl⟩ cells_3 (by omega) (opn_i64 Try.underlying3)
  have q1 := piece cs 1 1
  rw [e1] at q1
  obtain ⟨b2, e2, k2, m2, o2⟩ := opn_field Try.underlying87 hw hf 2 3 2 1 ⟨_, rfl, rfl, rfl⟩ cells_3 (by omega) (opn_i64 Try.underlying3)
  have q2 := piece cs 2 1
  rw [e2] at q2
  obtain ⟨b3, e3, k3, m3, o3⟩ := opn_field Try.underlying87 hw hf 3 26 3 1 ⟨_, rfl, rfl, rfl⟩ cells_26 (by omega) (opn_u32 Try.underlying26)
  have q3 := piece cs 3 1
  rw [e3] at q3
  have hz : cs.drop 4 = [] := List.drop_of_length_le (by omega)
  refine ⟨⟨b0, b1, b2, b3⟩, ?_, ⟨o0, o1, o2, o3⟩⟩
  have q : cs.drop 0 = _ := q0
  simp only [Nat.zero_add, Nat.reduceAdd, hz, List.drop_zero] at q q1 q2 q3
  rw [q1] at q
  rw [q2] at q
  rw [q3] at q
  exact q
def T_pithlaw08_Plan.ok (W : World) (b : T_pithlaw08_Plan) (k : Nat) : Prop := (-9223372036854775808 ≤ b.N ∧ b.N < 9223372036854775808) ∧ (∃ k', k' ≤ k ∧ (RdP cd_pithlaw08_Ask (old W) b.Asks.1 b.Asks.2 ∧ b.Asks.2.length * 32 ≤ reachBytes ∧ b.Asks.2.length + 1 ≤ k' ∧ ∀ c0 ∈ b.Asks.2, ∃ k0, k0 ≤ k' ∧ c0.ok W k0))
theorem opn_pithlaw08_Plan (W : World) : Opn Try.prog W 98 T_pithlaw08_Plan.enc (T_pithlaw08_Plan.ok W) := by
  refine ⟨fun {H} en fuel cs x hx hw => ?_⟩
  obtain ⟨xs, n, _, rfl, hl, hlen, hf⟩ := DataW.trod_struct Try.underlying98 hx
  have hlen : xs.length = 2 := hlen
  rw [cells_98] at hl
  obtain ⟨b0, e0, k0, m0, o0⟩ := opn_field Try.underlying98 hw hf 0 3 0 1 ⟨_, rfl, rfl, rfl⟩ cells_3 (by omega) (opn_i64 Try.underlying3)
  have q0 := piece cs 0 1
  rw [e0] at q0
  obtain ⟨b1, e1, k1, m1, o1⟩ := opn_field Try.underlying98 hw hf 1 74 1 1 ⟨_, rfl, rfl, rfl⟩ cells_74 (by omega) (opn_slice (C := cd_pithlaw08_Ask) Try.underlying74 cells_87 bytes_87 (opn_pithlaw08_Ask W))
  have q1 := piece cs 1 1
  rw [e1] at q1
  have hz : cs.drop 2 = [] := List.drop_of_length_le (by omega)
  refine ⟨⟨b0, b1⟩, ?_, ⟨o0, ⟨_, m1, o1⟩⟩⟩
  have q : cs.drop 0 = _ := q0
  simp only [Nat.zero_add, Nat.reduceAdd, hz, List.drop_zero] at q q1
  rw [q1] at q
  exact q
def T_pithlaw09_Op.ok (W : World) (b : T_pithlaw09_Op) (k : Nat) : Prop := (-9223372036854775808 ≤ b.Kind ∧ b.Kind < 9223372036854775808) ∧ (-9223372036854775808 ≤ b.Row ∧ b.Row < 9223372036854775808) ∧ (-9223372036854775808 ≤ b.At ∧ b.At < 9223372036854775808) ∧ (-9223372036854775808 ≤ b.N ∧ b.N < 9223372036854775808) ∧ (-9223372036854775808 ≤ b.V ∧ b.V < 9223372036854775808)
theorem opn_pithlaw09_Op (W : World) : Opn Try.prog W 116 T_pithlaw09_Op.enc (T_pithlaw09_Op.ok W) := by
  refine ⟨fun {H} en fuel cs x hx hw => ?_⟩
  obtain ⟨xs, n, _, rfl, hl, hlen, hf⟩ := DataW.trod_struct Try.underlying116 hx
  have hlen : xs.length = 5 := hlen
  rw [cells_116] at hl
  obtain ⟨b0, e0, k0, m0, o0⟩ := opn_field Try.underlying116 hw hf 0 3 0 1 ⟨_, rfl, rfl, rfl⟩ cells_3 (by omega) (opn_i64 Try.underlying3)
  have q0 := piece cs 0 1
  rw [e0] at q0
  obtain ⟨b1, e1, k1, m1, o1⟩ := opn_field Try.underlying116 hw hf 1 3 1 1 ⟨_, rfl, rfl, rfl⟩ cells_3 (by omega) (opn_i64 Try.underlying3)
  have q1 := piece cs 1 1
  rw [e1] at q1
  obtain ⟨b2, e2, k2, m2, o2⟩ := opn_field Try.underlying116 hw hf 2 3 2 1 ⟨_, rfl, rfl, rfl⟩ cells_3 (by omega) (opn_i64 Try.underlying3)
  have q2 := piece cs 2 1
  rw [e2] at q2
  obtain ⟨b3, e3, k3, m3, o3⟩ := opn_field Try.underlying116 hw hf 3 3 3 1 ⟨_, rfl, rfl, rfl⟩ cells_3 (by omega) (opn_i64 Try.underlying3)
  have q3 := piece cs 3 1
  rw [e3] at q3
  obtain ⟨b4, e4, k4, m4, o4⟩ := opn_field Try.underlying116 hw hf 4 3 4 1 ⟨_, rfl, rfl, rfl⟩ cells_3 (by omega) (opn_i64 Try.underlying3)
  have q4 := piece cs 4 1
  rw [e4] at q4
  have hz : cs.drop 5 = [] := List.drop_of_length_le (by omega)
  refine ⟨⟨b0, b1, b2, b3, b4⟩, ?_, ⟨o0, o1, o2, o3, o4⟩⟩
  have q : cs.drop 0 = _ := q0
  simp only [Nat.zero_add, Nat.reduceAdd, hz, List.drop_zero] at q q1 q2 q3 q4
  rw [q1] at q
  rw [q2] at q
  rw [q3] at q
  rw [q4] at q
  exact q
end Go.Proofs.Ytoejaggkedlfmaa

namespace Go.Proofs.Ytoejaggkedlfmaa
open Go
set_option linter.unusedSimpArgs false
set_option linter.unnecessarySimpa false
set_option linter.unusedSectionVars false
set_option linter.unusedVariables false
attribute [local irreducible] oMv oV oU oCall oCallV oBi oBin oUn oLoad oStore oNil oFld oField oIdx oIndex oPick oAlloc oBox oBuild oBs oConv oMk oSl oExt oFn oIface oMap oLook oMapUp oRange oNext oAssert oPanic oRes pN pA pL pDr pIf gA pGd

/-- A row of probabilities in block b. -/
def PSet (b : Nat) (l : List Int) : HA := fun h => ∃ s : Sl, Sats [cel b ⟨137, [.slice s.a l.length s.c]⟩, rows cd_int s l] h

namespace B
/-- A probability, brought into its bounds. -/
def taken (p : Int) : Int := max 0 (min p 2047)
def next (p bit : Int) : Int := if bit = 0 then taken p + (2048 - taken p) / 32 else taken p - taken p / 32
def bound (rng p : Int) : Int := rng / 2048 * taken p
theorem taken_lo (p : Int) : 0 ≤ taken p := by unfold taken; omega
theorem taken_hi (p : Int) : taken p ≤ 2047 := by unfold taken; omega
theorem taken_self {p : Int} (h : 0 ≤ p) (h2 : p ≤ 2047) : taken p = p := by unfold taken; omega
theorem next_lo {p : Int} (bit : Int) (h1 : 31 ≤ p) (h2 : p ≤ 2017) : 31 ≤ next p bit := by
  unfold next
  rw [taken_self (by omega) (by omega)]
  split <;> omega
theorem next_hi {p : Int} (bit : Int) (h1 : 31 ≤ p) (h2 : p ≤ 2017) : next p bit ≤ 2017 := by
  unfold next
  rw [taken_self (by omega) (by omega)]
  split <;> omega
theorem bound_pos {rng p : Int} (h0 : 16777216 ≤ rng) (h1 : 31 ≤ p) : 0 < bound rng p := by
  unfold bound taken
  have : 1 * 1 ≤ rng / 2048 * max 0 (min p 2047) := Int.mul_le_mul (by omega) (by omega) (by omega) (by omega)
  omega
theorem bound_lo {rng p : Int} (h0 : 0 ≤ rng) : 0 ≤ bound rng p := Int.mul_nonneg (by omega) (taken_lo p)
theorem bound_lt {rng p : Int} (h0 : 16777216 ≤ rng) : bound rng p < rng := by
  unfold bound
  have h1 := taken_hi p
  have h2 := taken_lo p
  have : rng / 2048 * taken p ≤ rng / 2048 * 2047 := Int.mul_le_mul_of_nonneg_left h1 (by omega)
  omega
theorem bound_le {rng p : Int} (h0 : 0 ≤ rng) : bound rng p ≤ rng := by
  unfold bound
  have h1 := taken_hi p
  have h2 := taken_lo p
  have : rng / 2048 * taken p ≤ rng / 2048 * 2047 := Int.mul_le_mul_of_nonneg_left h1 (by omega)
  omega
/-- What bits cost. -/
def halve : Nat → Int → Int → Int × Int
  | 0, w, c => (w, c)
  | f + 1, w, c => if 65536 ≤ w then halve f (w / 2) (c + 1) else (w, c)
def square (x : Int × Int) : Int × Int := halve 20 (x.1 * x.1) (x.2 * 2)
def costing (i : Int) : Int := 161 - (square (square (square (square (16 * i + 8, 0))))).2
def sq : Nat → Int × Int → Int × Int
  | 0, x => x
  | n + 1, x => sq n (square x)
def cost (p bit : Int) : Int := if bit = 0 then costing (taken p / 16) else costing ((2047 - taken p) / 16)
theorem halve_small : ∀ (f : Nat) (w c : Int), w < 65536 * 2 ^ f → 0 ≤ w → (halve f w c).1 < 65536 ∧ 0 ≤ (halve f w c).1
  | 0, w, c, h, h0 => by simp only [halve]; omega
  | f + 1, w, c, h, h0 => by
    unfold halve
    split
    · exact halve_small f (w / 2) (c + 1) (by rw [Int.pow_succ] at h; omega) (by omega)
    · simp only; omega
theorem halve_stop (f : Nat) {w : Int} (c : Int) (h : w < 65536) : halve f w c = (w, c) := by
  cases f with
  | zero => rfl
  | succ f => rw [halve, if_neg (by omega)]
theorem square_small {x : Int × Int} (h : x.1 < 65536) (h0 : 0 ≤ x.1) : (square x).1 < 65536 ∧ 0 ≤ (square x).1 := by
  have h1 : x.1 * x.1 ≤ 65535 * 65535 := Int.mul_le_mul (by omega) (by omega) h0 (by omega)
  exact halve_small 20 _ _ (by have e : (65536 : Int) * 2 ^ 20 = 68719476736 := by decide
                               omega) (Int.mul_nonneg h0 h0)
/-- What is known of the probabilities of a row that only turned. -/
def Fine (l : List Int) : Prop := ∀ p ∈ l, 31 ≤ p ∧ p ≤ 2017
theorem Fine.get {l : List Int} (h : Fine l) {i : Nat} {p : Int} (hp : l[i]? = some p) : 31 ≤ p ∧ p ≤ 2017 := h p (List.mem_of_getElem? hp)
theorem Fine.new (n : Nat) : Fine (List.replicate n 1024) := by
  intro p hp
  rw [List.eq_of_mem_replicate hp]
  omega
theorem Fine.set {l : List Int} (h : Fine l) (i : Nat) {p : Int} (hp : 31 ≤ p ∧ p ≤ 2017) : Fine (l.set i p) := by
  intro q hq
  rcases List.mem_or_eq_of_mem_set hq with hq | rfl
  · exact h q hq
  · exact hp
end B

section
variable {E w : World} {M : List HA} {Q : Value → World → Prop} {b : Nat} {l : List Int}

theorem PSet.opn (hS : Sat E w (PSet b l :: M)) : ∃ s : Sl, Sat E w (cel b ⟨137, [.slice s.a l.length s.c]⟩ :: rows cd_int s l :: M) := by
  obtain ⟨s, hS⟩ := hS.ex
  exact ⟨s, hS.open_ (M := [_, _]) fun _ h => h⟩
theorem PSet.shut {s : Sl} {L N : List HA} {o : Ob} (hS : Sat E w L) [h1 : Fnd (cel b) L o N] [h2 : Fnd (rows cd_int s) N l M] (ho : o = ⟨137, [.slice s.a l.length s.c]⟩) : Sat E w (PSet b l :: M) := by
  subst ho
  exact Sat.shut (M := [_, _]) (hS.fd2 (cel b) (rows cd_int s)) fun _ h => ⟨s, h⟩

theorem Len_ok (hS : Sat E w (PSet b l :: M)) (hQ : ∀ w, Sat E w (PSet b l :: M) → Q (.int .i64 l.length) w) : Calls Try.prog 63 #[.pointer (some ⟨b, 0, none⟩)] w (retP Q) := by
  refine prob_Set_Len.calls ?_
  unfold prob_Set_Len.F
  obtain ⟨s, hS⟩ := PSet.opn hS
  repeat' (first | refine pN_l hS (by first | rfl | assumption) ?_ | refine pN_via (by (intro K; simp (disch := omega) only [go_sem, pN_min, pN_max, w_u32, w_u64, Option.isNone_some, Option.isNone_none]; (try simp only [wrap_u32, wrap_u64]); rfl)) ?_ | fail)
  exact hQ _ (PSet.shut (b := b) (s := s) hS rfl)

theorem has_ok (hS : Sat E w (PSet b l :: M)) (i : Int) (hQ : ∀ w, Sat E w (PSet b l :: M) → Q (.int .i64 (if 0 ≤ i ∧ i < l.length then 0 else 7)) w) : Calls Try.prog 78 #[.pointer (some ⟨b, 0, none⟩), .int .i64 i] w (retP Q) := by
  refine prob_Set_has.calls ?_
  unfold prob_Set_has.F
  obtain ⟨s, hS⟩ := PSet.opn hS
  repeat' (first | ((first | refine pN_lss_s ?_ ?_ | refine pN_geq_s ?_ ?_) <;> intro hc <;> try (exfalso; omega)) | refine pIf_t ?_ | refine pIf_f ?_ | refine pGd_go (by rfl) ?_ | refine pGd_no (by rfl) ?_ | refine pN_l hS (by first | rfl | assumption) ?_ | refine pN_via (by (intro K; simp (disch := omega) only [go_sem, pN_min, pN_max, w_u32, w_u64, Option.isNone_some, Option.isNone_none]; (try simp only [wrap_u32, wrap_u64]); rfl)) ?_ | fail)
  all_goals (have := hQ _ (PSet.shut (b := b) (s := s) hS rfl); first | (rw [if_neg (by omega)] at this; exact this) | (rw [if_pos (by omega)] at this; exact this))

theorem taken_ok (p : Int) (hQ : Q (.int .i64 (B.taken p)) w) : Calls Try.prog 76 #[.int .i64 p] w (retP Q) := by
  refine prob_taken.calls ?_
  unfold prob_taken.F
  repeat' (first | refine pN_via (by (intro K; simp (disch := omega) only [go_sem, pN_min, pN_max, w_u32, w_u64, Option.isNone_some, Option.isNone_none]; (try simp only [wrap_u32, wrap_u64]); rfl)) ?_ | fail)
  exact hQ

theorem Next_ok (p bit : Int) (hQ : Q (.int .i64 (B.next p bit)) w) : Calls Try.prog 25 #[.int .i64 p, .int .i64 bit] w (retP Q) := by
  refine prob_Next.calls ?_
  unfold prob_Next.F
  have h1 := B.taken_lo p
  have h2 := B.taken_hi p
  refine pc_prob_taken (taken_ok p ?_)
  repeat' (first | (refine pN_eql_s ?_ ?_ <;> intro hc <;> try (exfalso; first | omega | exact hc rfl | exact hc (by assumption) | exact absurd hc (by assumption))) | refine pIf_t ?_ | refine pIf_f ?_ | refine pN_via (by (intro K; simp (disch := omega) only [go_sem, pN_min, pN_max, w_u32, w_u64, Option.isNone_some, Option.isNone_none]; (try simp only [wrap_u32, wrap_u64]); rfl)) ?_ | fail)
  · rw [B.next, if_pos hc] at hQ; exact hQ
  · rw [B.next, if_neg hc] at hQ; exact hQ

theorem Bound_ok (rng p : Int) (h0 : 0 ≤ rng) (h1 : rng < 4294967296) (hQ : Q (.int .u32 (B.bound rng p)) w) : Calls Try.prog 77 #[.int .u32 rng, .int .i64 p] w (retP Q) := by
  refine prob_Bound.calls ?_
  unfold prob_Bound.F
  have h3 := B.taken_lo p
  have h4 := B.taken_hi p
  have h5 := B.bound_lo (rng := rng) (p := p) h0
  have h6 := B.bound_le (rng := rng) (p := p) h0
  unfold B.bound at h5 h6 hQ
  repeat' (first | refine pN_via (by (intro K; simp (disch := omega) only [go_sem, pN_min, pN_max, w_u32, w_u64, Option.isNone_some, Option.isNone_none]; (try simp only [wrap_u32, wrap_u64]); rfl)) ?_ | fail)
  refine pc_prob_taken (taken_ok p ?_)
  repeat' (first | refine pN_via (by (intro K; simp (disch := omega) only [go_sem, pN_min, pN_max, w_u32, w_u64, Option.isNone_some, Option.isNone_none]; (try simp only [wrap_u32, wrap_u64]); rfl)) ?_ | fail)
  exact hQ

theorem costing_ok (i : Int) (h0 : 0 ≤ i) (h1 : i ≤ 2000) (hQ : Q (.int .i64 (B.costing i)) w) : Calls Try.prog 121 #[.int .i64 i] w (retP Q) := by
  refine prob_costing.calls ?_
  unfold prob_costing.F
  repeat' (first | refine pN_via (by (intro K; simp (disch := omega) only [go_sem, pN_min, pN_max, w_u32, w_u64, Option.isNone_some, Option.isNone_none]; (try simp only [wrap_u32, wrap_u64]); rfl)) ?_ | fail)
  refine ⟨fun v c k w' => ∃ (x c' : Int) (j : Nat), v = .int .i64 x ∧ c = .int .i64 c' ∧ k = .int .i64 j ∧ j ≤ 4 ∧ x < 65536 ∧ 0 ≤ x ∧ 0 ≤ c' ∧ c' < 32 ^ j ∧ B.sq (4 - j) (x, c') = B.sq 4 (16 * i + 8, 0) ∧ w' = w, fun _ _ k _ => 4 - (RowKit.intOf k).toNat,
    ⟨16 * i + 8, 0, 0, rfl, rfl, rfl, by omega, by omega, by omega, by omega, by decide, rfl, rfl⟩, ?_⟩
  rintro _ _ _ _ w1 ⟨x, c, j, rfl, rfl, rfl, hj, a1, a2, a3, a4, a5, rfl⟩
  have a6 : (32 : Int) ^ j ≤ 1048576 := by
    have : j = 0 ∨ j = 1 ∨ j = 2 ∨ j = 3 ∨ j = 4 := by omega
    rcases this with rfl | rfl | rfl | rfl | rfl <;> decide
  have a7 : 0 ≤ x * x := Int.mul_nonneg a2 a2
  have a8 : x * x ≤ 65535 * 65535 := Int.mul_le_mul (by omega) (by omega) a2 (by omega)
  repeat' (first | (refine pN_lss_s ?_ ?_ <;> intro hc <;> try (exfalso; omega)) | refine pIf_t ?_ | refine pIf_f ?_ | refine pN_via (by (intro K; simp (disch := omega) only [go_sem, pN_min, pN_max, w_u32, w_u64, Option.isNone_some, Option.isNone_none]; (try simp only [wrap_u32, wrap_u64]); rfl)) ?_ | fail)
  · refine ⟨fun v k w' => ∃ (y d : Int) (f : Nat), v = .int .i64 y ∧ k = .int .i64 d ∧ f ≤ 20 ∧ 0 ≤ y ∧ y < 65536 * 2 ^ f ∧ y < 8589934592 ∧ 0 ≤ d ∧ d + f ≤ c * 2 + 20 ∧ B.halve f y d = B.halve 20 (x * x) (c * 2) ∧ w' = w1, fun v _ _ => (RowKit.intOf v).toNat,
      ⟨x * x, c * 2, 20, rfl, rfl, by omega, a7, by have e : (65536 : Int) * 2 ^ 20 = 68719476736 := by decide
                                                    omega, by omega, by omega, by omega, rfl, rfl⟩, ?_⟩
    rintro _ _ _ w2 ⟨y, d, f, rfl, rfl, hf, b1, b2, b3, b4, b5, b6, rfl⟩
    repeat' (first | (refine pN_geq_s ?_ ?_ <;> intro hc <;> try (exfalso; omega)) | refine pIf_t ?_ | refine pIf_f ?_ | refine pN_via (by (intro K; simp (disch := omega) only [go_sem, pN_min, pN_max, w_u32, w_u64, Option.isNone_some, Option.isNone_none]; (try simp only [wrap_u32, wrap_u64]); rfl)) ?_ | fail)
    · obtain ⟨f, rfl⟩ : ∃ g, f = g + 1 := ⟨f - 1, by
        rcases Nat.eq_zero_or_pos f with rfl | h
        · simp at b2; omega
        · omega⟩
      rw [B.halve, if_pos (by omega)] at b6
      rw [Int.pow_succ] at b2
      exact ⟨⟨y / 2, d + 1, f, rfl, rfl, by omega, by omega, by omega, by omega, by omega, by omega, b6, rfl⟩, by simp [RowKit.intOf] <;> omega⟩
    · rw [B.halve_stop f d (by omega)] at b6
      refine ⟨⟨y, d, j + 1, rfl, rfl, rfl, by omega, by omega, b1, b4, ?_, ?_, rfl⟩, by simp [RowKit.intOf] <;> omega⟩
      · rw [Int.pow_succ]; omega
      · rw [← a5, show 4 - j = (4 - (j + 1)) + 1 from by omega, B.sq]
        simp only [B.square]
        rw [← b6]
  · obtain rfl : j = 4 := by omega
    have e : B.costing i = 161 - c := by
      have : B.sq 4 (16 * i + 8, 0) = (x, c) := a5.symm
      have e2 : B.costing i = 161 - (B.sq 4 (16 * i + 8, 0)).2 := rfl
      rw [e2, this]
    rw [← e]
    exact hQ

theorem Cost_ok (p bit : Int) (hQ : Q (.int .i64 (B.cost p bit)) w) : Calls Try.prog 112 #[.int .i64 p, .int .i64 bit] w (retP Q) := by
  refine prob_Cost.calls ?_
  unfold prob_Cost.F
  have h1 := B.taken_lo p
  have h2 := B.taken_hi p
  unfold B.cost at hQ
  refine pc_prob_taken (taken_ok p ?_)
  repeat' (first | (refine pN_neq_s ?_ ?_ <;> intro hc <;> try (exfalso; first | omega | exact hc rfl | exact hc (by assumption) | exact absurd hc (by assumption))) | refine pIf_t ?_ | refine pIf_f ?_ | refine pN_via (by (intro K; simp (disch := omega) only [go_sem, pN_min, pN_max, w_u32, w_u64, Option.isNone_some, Option.isNone_none]; (try simp only [wrap_u32, wrap_u64]); rfl)) ?_ | refine ⟨_, ?_, fun _ _ _ h => h⟩ | fail)
  · rw [if_pos (by omega)] at hQ
    refine pc_prob_costing (costing_ok _ (by omega) (by omega) ?_)
    skip
    exact hQ
  · rw [if_neg (by omega)] at hQ
    refine pc_prob_costing (costing_ok _ (by omega) (by omega) ?_)
    skip
    exact hQ

theorem At_ok (hS : Sat E w (PSet b l :: M)) (i : Int) (hQ : ∀ w, Sat E w (PSet b l :: M) → Q (.tuple #[.int .i64 (if 0 ≤ i ∧ i < l.length then l.getD i.toNat 0 else 0), .int .i64 (if 0 ≤ i ∧ i < l.length then 0 else 7)]) w) :
    Calls Try.prog 28 #[.pointer (some ⟨b, 0, none⟩), .int .i64 i] w (retP Q) := by
  refine prob_Set_At.calls ?_
  unfold prob_Set_At.F
  refine pc_prob_Set_has (has_ok hS i fun w hS => ?_)
  have := hQ w
  by_cases h : 0 ≤ i ∧ i < l.length
  · simp only [if_pos h] at hQ ⊢
    obtain ⟨s, hS⟩ := PSet.opn hS
    repeat' (first | (refine pN_neq_s ?_ ?_ <;> intro hc <;> try (exfalso; first | omega | exact hc rfl | exact hc (by assumption) | exact absurd hc (by assumption))) | refine pIf_f ?_ | refine pN_l hS (by first | rfl | assumption) ?_ | refine pN_ld1 ha hS ?_ | refine pN_ix hS _ (by first | rfl | (exact (Int.toNat_of_nonneg (by omega)).symm)) (by first | rfl | omega | simpa only [go_sem] using True.intro | (simp only [go_sem]; omega)) (by first | omega | (simp only [go_sem]; omega)) fun a x hx ha hel => ?_ | refine pN_via (by (intro K; simp (disch := omega) only [go_sem, pN_min, pN_max, w_u32, w_u64, Option.isNone_some, Option.isNone_none]; (try simp only [wrap_u32, wrap_u64]); rfl)) ?_ | fail)
    rw [List.getD_eq_getElem?_getD, hx] at hQ
    exact hQ _ (PSet.shut (b := b) (s := s) hS rfl)
  · simp only [if_neg h] at hQ ⊢
    repeat' (first | (refine pN_neq_s ?_ ?_ <;> intro hc <;> try (exfalso; first | omega | exact hc rfl | exact hc (by assumption) | exact absurd hc (by assumption))) | refine pIf_t ?_ | fail)
    exact hQ _ hS

theorem At_in (hS : Sat E w (PSet b l :: M)) (i : Int) {x : Int} (h0 : 0 ≤ i) (hx : l[i.toNat]? = some x) (hQ : ∀ w, Sat E w (PSet b l :: M) → Q (.tuple #[.int .i64 x, .int .i64 0]) w) :
    Calls Try.prog 28 #[.pointer (some ⟨b, 0, none⟩), .int .i64 i] w (retP Q) := by
  have hlt : i.toNat < l.length := (List.getElem?_eq_some_iff.1 hx).1
  refine At_ok hS i fun w hS => ?_
  have e : l.getD i.toNat 0 = x := by rw [List.getD_eq_getElem?_getD, hx]; rfl
  rw [if_pos (by omega), if_pos (by omega), e]
  exact hQ w hS
theorem At_no (hS : Sat E w (PSet b l :: M)) (i : Int) (h : ¬ (0 ≤ i ∧ i < l.length)) (hQ : ∀ w, Sat E w (PSet b l :: M) → Q (.tuple #[.int .i64 0, .int .i64 7]) w) :
    Calls Try.prog 28 #[.pointer (some ⟨b, 0, none⟩), .int .i64 i] w (retP Q) := by
  refine At_ok hS i fun w hS => ?_
  rw [if_neg h, if_neg h]
  exact hQ w hS

theorem Turn_ok (hS : Sat E w (PSet b l :: M)) (i bit : Int) (hQ : ∀ w, Sat E w (PSet b (if 0 ≤ i ∧ i < l.length then l.set i.toNat (B.next (l.getD i.toNat 0) bit) else l) :: M) → Q (.int .i64 (if 0 ≤ i ∧ i < l.length then 0 else 7)) w) :
    Calls Try.prog 62 #[.pointer (some ⟨b, 0, none⟩), .int .i64 i, .int .i64 bit] w (retP Q) := by
  refine prob_Set_Turn.calls ?_
  unfold prob_Set_Turn.F
  refine pc_prob_Set_has (has_ok hS i fun w hS => ?_)
  by_cases h : 0 ≤ i ∧ i < l.length
  · simp only [if_pos h] at hQ ⊢
    obtain ⟨s, hS⟩ := PSet.opn hS
    refine ⟨_, ?_, fun _ _ h => h⟩
    repeat' (first | (refine pN_eql_s ?_ ?_ <;> intro hc <;> try (exfalso; first | omega | exact hc rfl | exact hc (by assumption) | exact absurd hc (by assumption))) | refine pIf_t ?_ | refine pL_l hS (by first | rfl | assumption) ?_ | refine pL_ld1 ha hS ?_ | (refine pDr_go hS ?_; clear hS; intro w hS) | refine pA_ix hS _ (by first | rfl | (exact (Int.toNat_of_nonneg (by omega)).symm)) (by first | rfl | omega | simpa only [go_sem] using True.intro | (simp only [go_sem]; omega)) (by first | omega | (simp only [go_sem]; omega)) fun a x hx ha hel => ?_ | refine pA_via (by (intro K; simp (disch := omega) only [go_sem, pN_min, pN_max, w_u32, w_u64, Option.isNone_some, Option.isNone_none]; (try simp only [wrap_u32, wrap_u64]); rfl)) ?_ | fail)
    refine pc_prob_Next (Next_ok _ bit ?_)
    repeat' (first | refine ⟨trivial, ?_⟩ | refine ⟨⟨(by first | exact run_l hS (by first | rfl | assumption) | exact run_st hS (by first | rfl | omega) | exact run_ld1 ha hS | exact fun _ => run_l hS (by rfl) | exact fun _ => run_st hS (by first | rfl | omega) | exact fun _ => run_ld1 ha hS | exact fun h => Bool.noConfusion h), trivial⟩, ?_⟩ | refine pA_ixk hS _ (by first | rfl | (exact (Int.toNat_of_nonneg (by omega)).symm)) (by first | rfl | omega | simpa only [go_sem] using True.intro | (simp only [go_sem]; omega)) (by assumption) fun a ha hel => ?_ | (refine pN_sr hel hS (by rfl) (by rfl) (by first | omega | (simp only [go_sem]; omega)) ?_; clear hS; intro w hS) | fail)
    have e : l.getD i.toNat 0 = x := by rw [List.getD_eq_getElem?_getD, hx]; rfl
    rw [e] at hQ
    exact hQ _ (PSet.shut (b := b) (s := s) hS (by rw [List.length_set]))
  · simp only [if_neg h] at hQ ⊢
    refine ⟨_, ?_, fun _ _ h => h⟩
    repeat' (first | (refine pN_eql_s ?_ ?_ <;> intro hc <;> try (exfalso; first | omega | exact hc rfl | exact hc (by assumption) | exact absurd hc (by assumption))) | refine pIf_f ?_ | fail)
    exact hQ _ hS

theorem Turn_in (hS : Sat E w (PSet b l :: M)) (i bit : Int) {x : Int} (h0 : 0 ≤ i) (hx : l[i.toNat]? = some x) (hQ : ∀ w, Sat E w (PSet b (l.set i.toNat (B.next x bit)) :: M) → Q (.int .i64 0) w) :
    Calls Try.prog 62 #[.pointer (some ⟨b, 0, none⟩), .int .i64 i, .int .i64 bit] w (retP Q) := by
  have hlt : i.toNat < l.length := (List.getElem?_eq_some_iff.1 hx).1
  refine Turn_ok hS i bit fun w hS => ?_
  have e : l.getD i.toNat 0 = x := by rw [List.getD_eq_getElem?_getD, hx]; rfl
  rw [if_pos (by omega), e] at hS
  rw [if_pos (by omega)]
  exact hQ w hS

theorem Reset_ok (hS : Sat E w (PSet b l :: M)) (hQ : ∀ w, Sat E w (PSet b (List.replicate l.length 1024) :: M) → Q (.tuple #[]) w) : Calls Try.prog 87 #[.pointer (some ⟨b, 0, none⟩)] w (retP Q) := by
  refine prob_Set_Reset.calls ?_
  unfold prob_Set_Reset.F
  obtain ⟨s, hS⟩ := PSet.opn hS
  have hlen := rows_len (C := cd_int) s hS
  repeat' (first | refine pN_l hS (by first | rfl | assumption) ?_ | refine pN_via (by (intro K; simp (disch := omega) only [go_sem, pN_min, pN_max, w_u32, w_u64, Option.isNone_some, Option.isNone_none]; (try simp only [wrap_u32, wrap_u64]); rfl)) ?_ | fail)
  refine ⟨fun v w => ∃ k : Nat, v = .int .i64 k ∧ k ≤ l.length ∧ Sat E w (cel b ⟨137, [.slice s.a l.length s.c]⟩ :: rows cd_int s (List.replicate k 1024 ++ l.drop k) :: M), fun v _ => l.length - (RowKit.intOf v).toNat, ⟨0, rfl, Nat.zero_le _, hS⟩, ?_⟩
  rintro _ _ w ⟨k, rfl, hk, hS⟩
  have e : (List.replicate k 1024 ++ l.drop k).length = l.length := by simp; omega
  repeat' (first | (refine pN_lss_s ?_ ?_ <;> intro hc <;> try (exfalso; omega)) | refine pIf_t ?_ | refine pIf_f ?_ | refine pN_l hS (by first | rfl | assumption) ?_ | refine pN_ix hS _ (by first | rfl | (exact (Int.toNat_of_nonneg (by omega)).symm)) (by first | rfl | omega | simpa only [go_sem] using True.intro | (simp only [go_sem]; omega)) (by first | omega | (simp only [go_sem]; omega)) fun a x hx ha hel => ?_ | (refine pN_sr hel hS (by rfl) (by rfl) (by first | omega | (simp only [go_sem]; omega)) ?_; clear hS; intro w hS) | refine pN_via (by (intro K; simp (disch := omega) only [go_sem, pN_min, pN_max, w_u32, w_u64, Option.isNone_some, Option.isNone_none]; (try simp only [wrap_u32, wrap_u64]); rfl)) ?_ | fail)
  · refine ⟨⟨k + 1, rfl, by omega, ?_⟩, by simp [RowKit.intOf]; omega⟩
    have e2 : (List.replicate k (1024 : Int) ++ l.drop k).set k 1024 = List.replicate (k + 1) 1024 ++ l.drop (k + 1) := by
      rw [List.set_append_right _ _ (by simp), List.length_replicate, Nat.sub_self, List.replicate_succ', List.append_assoc]
      have : k < l.length := by omega
      rw [List.drop_eq_getElem_cons this]
      rfl
    rw [e2] at hS
    exact hS.to
  · obtain rfl : k = l.length := by omega
    rw [List.drop_length, List.append_nil] at hS
    exact hQ _ (PSet.shut (b := b) (s := s) hS (by rw [List.length_replicate]))

theorem New_ok (hS : Sat E w M) (n : Int) (h0 : 0 ≤ n) (h1 : n ≤ 1048576) (hQ : ∀ b w, Sat E w (PSet b (List.replicate n.toNat 1024) :: M) → Q (.tuple #[.pointer (some ⟨b, 0, none⟩), .int .i64 0]) w) :
    Calls Try.prog 45 #[.int .i64 n] w (retP Q) := by
  refine prob_New.calls ?_
  unfold prob_New.F
  repeat' (first | ((first | refine pN_lss_s ?_ ?_ | refine pN_gtr_s ?_ ?_) <;> intro hc <;> try (exfalso; omega)) | refine pIf_f ?_ | refine pGd_go (by rfl) ?_ | (refine pN_bx hS (by rfl) ?_; clear hS; intro a w hS) | (refine pN_mk hS _ (by first | rfl | (exact (Int.toNat_of_nonneg (by omega)).symm)) (by first | omega | (simp only [go_sem]; omega)) ?_; clear hS; intro s w hS) | refine pN_via (by (intro K; simp (disch := omega) only [go_sem, pN_min, pN_max, w_u32, w_u64, Option.isNone_some, Option.isNone_none]; (try simp only [wrap_u32, wrap_u64]); rfl)) ?_ | fail)
  have hS : Sat E w (PSet a (List.replicate n.toNat 0) :: M) := PSet.shut (b := a) (s := s) hS (by rw [List.length_replicate])
  refine pc_prob_Set_Reset (Reset_ok hS fun w hS => ?_)
  rw [List.length_replicate] at hS
  exact hQ _ _ hS
theorem New_no (n : Int) (h : ¬ (0 ≤ n ∧ n ≤ 1048576)) (hQ : Q (.tuple #[.pointer none, .int .i64 7]) w) : Calls Try.prog 45 #[.int .i64 n] w (retP Q) := by
  refine prob_New.calls ?_
  unfold prob_New.F
  repeat' (first | ((first | refine pN_lss_s ?_ ?_ | refine pN_gtr_s ?_ ?_) <;> intro hc <;> try (exfalso; omega)) | refine pIf_t ?_ | refine pGd_go (by rfl) ?_ | refine pGd_no (by rfl) ?_ | refine pN_via (by (intro K; simp (disch := omega) only [go_sem, pN_min, pN_max, w_u32, w_u64, Option.isNone_some, Option.isNone_none]; (try simp only [wrap_u32, wrap_u64]); rfl)) ?_ | fail)
  all_goals exact hQ

theorem Fork_ok (hS : Sat E w (PSet b l :: M)) (hl : l.length ≤ 1048576) (hQ : ∀ c w, Sat E w (PSet c l :: PSet b l :: M) → Q (.pointer (some ⟨c, 0, none⟩)) w) : Calls Try.prog 40 #[.pointer (some ⟨b, 0, none⟩)] w (retP Q) := by
  refine prob_Set_Fork.calls ?_
  unfold prob_Set_Fork.F
  obtain ⟨s0, hS⟩ := PSet.opn hS
  repeat' (first | refine pN_l hS (by first | rfl | assumption) ?_ | (refine pN_bx hS (by rfl) ?_; clear hS; intro a w hS) | (refine pN_app0 hS (by first | rfl | omega | simpa only [go_sem] using True.intro | (simp only [go_sem]; omega)) (by first | omega | (simp only [go_sem]; omega)) ?_; clear hS; intro s w hS) | refine pN_via (by (intro K; simp (disch := omega) only [go_sem, pN_min, pN_max, w_u32, w_u64, Option.isNone_some, Option.isNone_none]; (try simp only [wrap_u32, wrap_u64]); rfl)) ?_ | fail)
  exact hQ _ _ (PSet.shut (b := a) (s := s) (PSet.shut (b := b) (s := s0) hS rfl) rfl)
end

end Go.Proofs.Ytoejaggkedlfmaa

namespace Go.Proofs.Ytoejaggkedlfmaa
open Go
set_option linter.unusedSimpArgs false
set_option linter.unnecessarySimpa false
set_option linter.unusedSectionVars false
set_option linter.unusedVariables false
namespace R

/-! ### Digits -/

theorem snoc_ind {α : Type} {p : List α → Prop} (h0 : p []) (h1 : ∀ l b, p l → p (l ++ [b])) (l : List α) : p l := by
  have : ∀ m : List α, p m.reverse := by
    intro m
    induction m with
    | nil => exact h0
    | cons b m ih => rw [List.reverse_cons]; exact h1 _ _ ih
  have := this l.reverse
  rwa [List.reverse_reverse] at this

def num (l : List UInt8) : Int := l.foldl (fun n b => n * 256 + (b.toNat : Int)) 0
theorem foldl_num (l : List UInt8) : ∀ n : Int, l.foldl (fun n b => n * 256 + (b.toNat : Int)) n = n * 256 ^ l.length + num l := by
  induction l with
  | nil => intro n; simp [num]
  | cons b l ih =>
    intro n
    simp only [num, List.foldl_cons, List.length_cons]
    rw [ih, ih (0 * 256 + (b.toNat : Int)), Int.pow_succ]
    grind
theorem num_append (l m : List UInt8) : num (l ++ m) = num l * 256 ^ m.length + num m := by
  rw [num, List.foldl_append, foldl_num]; rfl
theorem num_snoc (l : List UInt8) (b : UInt8) : num (l ++ [b]) = num l * 256 + (b.toNat : Int) := by
  rw [num_append]; simp [num]
theorem num_nonneg (l : List UInt8) : 0 ≤ num l := by
  induction l using snoc_ind with
  | h0 => simp [num]
  | h1 l b ih => rw [num_snoc]; omega
theorem num_lt (l : List UInt8) : num l < 256 ^ l.length := by
  induction l using snoc_ind with
  | h0 => simp [num]
  | h1 l b ih =>
    rw [num_snoc, List.length_append, List.length_cons, List.length_nil, Int.pow_succ]
    have := b.toNat_lt
    omega

def digits (n : Int) : Nat → List UInt8
  | 0 => []
  | k + 1 => digits (n / 256) k ++ [byteOf n]
theorem digits_length (k : Nat) : ∀ n : Int, (digits n k).length = k := by
  induction k with
  | zero => intro n; rfl
  | succ k ih => intro n; simp [digits, ih]
theorem num_digits (k : Nat) : ∀ n : Int, num (digits n k) = n % 256 ^ k := by
  induction k with
  | zero => intro n; simp [digits, num, Int.emod_one]
  | succ k ih =>
    intro n
    rw [digits, num_snoc, ih, byteOf_toNat, Int.pow_succ]
    have p : (0 : Int) < 256 ^ k := Int.pow_pos (by omega)
    generalize (256 : Int) ^ k = q at p
    have h1 := Int.emod_add_mul_ediv n 256
    have h2 := Int.emod_add_mul_ediv (n / 256) q
    have h3 := Int.emod_add_mul_ediv n (q * 256)
    have h4 : n / 256 / q = n / (q * 256) := by rw [Int.ediv_ediv_of_nonneg (by omega)]; congr 1; grind
    rw [h4] at h2
    generalize n / (q * 256) = d at h2 h3
    generalize n / 256 = c at h1 h2 ⊢
    generalize c % q = e at h2 ⊢
    grind
theorem digits_num (l : List UInt8) : digits (num l) l.length = l := by
  induction l using snoc_ind with
  | h0 => rfl
  | h1 l b ih =>
    rw [List.length_append, List.length_cons, List.length_nil, digits, num_snoc]
    have := b.toNat_lt
    have h1 : (num l * 256 + (b.toNat : Int)) / 256 = num l := by omega
    have h2 : byteOf (num l * 256 + (b.toNat : Int)) = b := by
      apply UInt8.toNat_inj.1
      have := byteOf_toNat (num l * 256 + (b.toNat : Int))
      omega
    rw [h1, ih, h2]
theorem num_inj {l m : List UInt8} (hl : l.length = m.length) (h : num l = num m) : l = m := by
  rw [← digits_num l, ← digits_num m, h, hl]
theorem digits_of {l : List UInt8} {n : Int} {k : Nat} (hl : l.length = k) (h : num l = n) : l = digits n k := by
  rw [← hl, ← h, digits_num]
theorem digits_mul (n : Int) (k : Nat) : digits (n * 256) (k + 1) = digits n k ++ [0] := by
  have h1 : n * 256 / 256 = n := by omega
  have h2 : byteOf (n * 256) = 0 := by
    apply UInt8.toNat_inj.1
    have := byteOf_toNat (n * 256)
    have e : ((0 : UInt8).toNat) = 0 := rfl
    omega
  rw [digits, h1, h2]

/-! ### The document's state -/

structure S where
  N : Int
  R : Int
  k : Nat

def S.new : S := ⟨0, 4294967295, 0⟩
def S.widen (s : S) : S := if h : 0 < s.R ∧ s.R < 16777216 then S.widen ⟨s.N * 256, s.R * 256, s.k + 1⟩ else s
termination_by (16777216 - s.R).toNat
decreasing_by omega
theorem S.widen_go {s : S} (h0 : 0 < s.R) (h1 : s.R < 16777216) : s.widen = S.widen ⟨s.N * 256, s.R * 256, s.k + 1⟩ := by
  rw [S.widen, dif_pos ⟨h0, h1⟩]
theorem S.widen_no {s : S} (h1 : ¬ s.R < 16777216) : s.widen = s := by
  rw [S.widen, dif_neg (by omega)]
def S.cut (s : S) (c bit : Int) : S := (if bit = 0 then ⟨s.N, c, s.k⟩ else ⟨s.N + c, s.R - c, s.k⟩ : S).widen
/-- One bit without a probability. -/
def S.one (s : S) (bit : Int) : S := (if bit = 1 then ⟨s.N + s.R / 2, s.R / 2, s.k⟩ else ⟨s.N, s.R / 2, s.k⟩ : S).widen
/-- The n lowest bits of v, the highest first. -/
def S.direct (s : S) (v : Int) : Nat → S
  | 0 => s
  | n + 1 => S.direct (s.one (v / 2 ^ n % 2)) v n
def S.bytes (s : S) : List UInt8 := digits s.N (s.k + 5)

/-- What is known of a state. -/
structure Ok (s : S) : Prop where
  n0 : 0 ≤ s.N
  r0 : 16777216 ≤ s.R
  r1 : s.R < 4294967296
  top : s.N + s.R ≤ 4294967296 * 256 ^ s.k

theorem Ok.new : Ok S.new := ⟨by decide, by decide, by decide, by decide⟩
theorem widen_ok : ∀ (n : Nat) (s : S), (16777216 - s.R).toNat = n → 0 ≤ s.N → 0 < s.R → s.R < 4294967296 → s.N + s.R ≤ 4294967296 * 256 ^ s.k → Ok s.widen := by
  intro n
  induction n using Nat.strongRecOn with
  | _ n ih =>
    intro s hn h0 h1 h2 h3
    by_cases c : s.R < 16777216
    · rw [S.widen_go h1 c]
      refine ih (16777216 - s.R * 256).toNat (by omega) ⟨s.N * 256, s.R * 256, s.k + 1⟩ rfl (by simp only; omega) (by simp only; omega) (by simp only; omega) ?_
      simp only [Int.pow_succ]
      generalize (256 : Int) ^ s.k = W at h3 ⊢
      omega
    · rw [S.widen_no c]
      exact ⟨h0, by omega, h2, h3⟩
theorem Ok.cut {s : S} (h : Ok s) (c bit : Int) (h0 : 0 < c) (h1 : c < s.R) : Ok (s.cut c bit) := by
  obtain ⟨a1, a2, a3, a4⟩ := h
  unfold S.cut
  split
  · exact widen_ok _ _ rfl a1 h0 (by simp only; omega) (by simp only; omega)
  · exact widen_ok _ _ rfl (by simp only; omega) (by simp only; omega) (by simp only; omega) (by simp only; omega)
theorem Ok.one {s : S} (h : Ok s) (bit : Int) : Ok (s.one bit) := by
  obtain ⟨a1, a2, a3, a4⟩ := h
  unfold S.one
  split
  · exact widen_ok _ _ rfl (by simp only; omega) (by simp only; omega) (by simp only; omega) (by simp only; omega)
  · exact widen_ok _ _ rfl a1 (by simp only; omega) (by simp only; omega) (by simp only; omega)
theorem Ok.direct (v : Int) (n : Nat) : ∀ {s : S}, Ok s → Ok (s.direct v n) := by
  induction n with
  | zero => intro s h; exact h
  | succ n ih => intro s h; exact ih (h.one _)

/-! How far the shifts go -/
theorem widen_mono_n : ∀ (n : Nat) (s : S), (16777216 - s.R).toNat = n → s.k ≤ s.widen.k := by
  intro n
  induction n using Nat.strongRecOn with
  | _ n ih =>
    intro s hn
    by_cases c : 0 < s.R ∧ s.R < 16777216
    · rw [S.widen_go c.1 c.2]
      have := ih (16777216 - s.R * 256).toNat (by omega) ⟨s.N * 256, s.R * 256, s.k + 1⟩ rfl
      simp only at this
      omega
    · rw [S.widen, dif_neg c]; exact Nat.le_refl _
theorem widen_mono (s : S) : s.k ≤ s.widen.k := widen_mono_n _ s rfl
theorem widen_k : ∀ (n : Nat) (s : S), (16777216 - s.R).toNat = n → 0 < s.R → s.widen.k ≤ s.k + 3 ∧ (65536 ≤ s.R → s.widen.k ≤ s.k + 1) := by
  have step : ∀ s : S, 16777216 ≤ s.R → s.widen.k = s.k := fun s h => by rw [S.widen_no (by omega)]
  have s1 : ∀ s : S, 65536 ≤ s.R → s.widen.k ≤ s.k + 1 := fun s h => by
    by_cases c : s.R < 16777216
    · rw [S.widen_go (by omega) c, step _ (by simp only; omega)]; exact Nat.le_refl _
    · rw [step s (by omega)]; omega
  have s2 : ∀ s : S, 256 ≤ s.R → s.widen.k ≤ s.k + 2 := fun s h => by
    by_cases c : s.R < 16777216
    · rw [S.widen_go (by omega) c]; have := s1 ⟨s.N * 256, s.R * 256, s.k + 1⟩ (by simp only; omega); simp only at this; omega
    · rw [step s (by omega)]; omega
  intro n s _ h
  refine ⟨?_, s1 s⟩
  by_cases c : s.R < 16777216
  · rw [S.widen_go (by omega) c]; have := s2 ⟨s.N * 256, s.R * 256, s.k + 1⟩ (by simp only; omega); simp only at this; omega
  · rw [step s (by omega)]; omega
theorem cut_k {s : S} (h : Ok s) (c bit : Int) (h0 : 0 < c) (h1 : c < s.R) : (s.cut c bit).k ≤ s.k + 3 := by
  unfold S.cut
  split
  · exact (widen_k _ ⟨s.N, c, s.k⟩ rfl h0).1
  · exact (widen_k _ ⟨s.N + c, s.R - c, s.k⟩ rfl (by simp only; omega)).1
theorem one_k {s : S} (h : Ok s) (bit : Int) : (s.one bit).k ≤ s.k + 1 := by
  have := h.r0
  unfold S.one
  split
  · exact (widen_k _ ⟨s.N + s.R / 2, s.R / 2, s.k⟩ rfl (by simp only; omega)).2 (by simp only; omega)
  · exact (widen_k _ ⟨s.N, s.R / 2, s.k⟩ rfl (by simp only; omega)).2 (by simp only; omega)

/-! ### The program's state -/

structure E where
  low : Int
  rng : Int
  held : UInt8
  wait : Nat
  out : List UInt8

def E.new : E := ⟨0, 4294967295, 0, 0, []⟩
def E.V (e : E) : Int := ((num e.out * 256 + e.held.toNat) * 256 ^ e.wait + (256 ^ e.wait - 1)) * 4294967296 + e.low

structure Inv (e : E) : Prop where
  l0 : 0 ≤ e.low
  r0 : 0 < e.rng
  sum : e.low + e.rng < 8589934592
  held : e.held.toNat = 255 → e.low + e.rng ≤ 4294967296

def E.shift (e : E) : E :=
  if e.low < 4278190080 ∨ 4294967295 < e.low then
    ⟨e.low % 16777216 * 256, e.rng, byteOf (e.low / 16777216), 0, e.out ++ [e.held + byteOf (e.low / 4294967296)] ++ List.replicate e.wait (255 + byteOf (e.low / 4294967296))⟩
  else ⟨e.low % 16777216 * 256, e.rng, e.held, e.wait + 1, e.out⟩

theorem shift_low (e : E) : e.shift.low = e.low % 16777216 * 256 := by unfold E.shift; split <;> rfl
theorem shift_rng (e : E) : e.shift.rng = e.rng := by unfold E.shift; split <;> rfl
theorem shift_len (e : E) : e.shift.out.length + e.shift.wait = e.out.length + e.wait + 1 := by
  unfold E.shift; split <;> simp <;> omega

theorem shift_with (e : E) (r : Int) : ({ e with rng := r } : E).shift = { e.shift with rng := r } := by unfold E.shift; split <;> rfl

theorem num_replicate (b : UInt8) (n : Nat) : num (List.replicate n b) * 255 = b.toNat * (256 ^ n - 1) := by
  induction n with
  | zero => simp [num]
  | succ n ih =>
    rw [List.replicate_succ', num_snoc, Int.pow_succ]
    grind

theorem shift_V {e : E} (h : Inv e) : e.shift.V = e.V * 256 := by
  obtain ⟨h1, h2, h3, h4⟩ := h
  have hh := e.held.toNat_lt
  unfold E.shift
  have p : (0 : Int) < 256 ^ e.wait := Int.pow_pos (by omega)
  by_cases c : e.low < 4278190080 ∨ 4294967295 < e.low
  · rw [if_pos c]
    have ehb := byteOf_toNat (e.low / 16777216)
    have ec := byteOf_toNat (e.low / 4294967296)
    simp only [E.V, Int.pow_zero]
    rw [num_append, num_snoc, List.length_replicate]
    have er := num_replicate (255 + byteOf (e.low / 4294967296)) e.wait
    generalize (256 : Int) ^ e.wait = W at p er ⊢
    rcases c with c | c
    · have e0 : byteOf (e.low / 4294967296) = 0 := by
        apply UInt8.toNat_inj.1
        have e : ((0 : UInt8).toNat) = 0 := rfl
        omega
      rw [e0] at er ⊢
      have e1 : ((255 + 0 : UInt8).toNat : Int) = 255 := rfl
      have e2 : e.held + 0 = e.held := by simp
      rw [e1] at er
      rw [e2, ehb]
      have er' : num (List.replicate e.wait (255 + 0 : UInt8)) = W - 1 := by omega
      rw [er']
      have e3 : e.low / 16777216 % 256 * 4294967296 + e.low % 16777216 * 256 = e.low * 256 := by omega
      grind
    · have e0 : byteOf (e.low / 4294967296) = 1 := by
        apply UInt8.toNat_inj.1
        have e : ((1 : UInt8).toNat) = 1 := rfl
        omega
      rw [e0] at er ⊢
      have e1 : ((255 + 1 : UInt8).toNat : Int) = 0 := rfl
      rw [e1] at er
      have hne : e.held.toNat ≠ 255 := fun hc => by have := h4 hc; omega
      have e2 : ((e.held + 1).toNat : Int) = e.held.toNat + 1 := by
        rw [UInt8.toNat_add]
        have e : ((1 : UInt8).toNat) = 1 := rfl
        omega
      rw [e2, ehb]
      have er' : num (List.replicate e.wait (255 + 1 : UInt8)) = 0 := by omega
      rw [er']
      have e3 : e.low / 16777216 % 256 * 4294967296 + e.low % 16777216 * 256 = (e.low - 4294967296) * 256 := by omega
      grind
  · rw [if_neg c]
    simp only [E.V, Int.pow_succ]
    generalize (256 : Int) ^ e.wait = W at p ⊢
    have e3 : e.low % 16777216 = e.low - 4278190080 := by omega
    rw [e3]
    grind

theorem shift_inv {e : E} (h : Inv e) (r : Int) (hr0 : 0 < r) (hr1 : r ≤ e.rng * 256) (hr2 : r < 4294967296) : Inv { e.shift with rng := r } := by
  obtain ⟨h1, h2, h3, h4⟩ := h
  have hl := shift_low e
  refine ⟨by simp only [hl]; omega, hr0, by simp only [hl]; omega, fun hh => ?_⟩
  simp only [hl]
  unfold E.shift at hh
  split at hh
  · rename_i c
    simp only at hh
    have := byteOf_toNat (e.low / 16777216)
    rcases c with c | c <;> omega
  · rename_i c
    have := h4 hh
    omega

/-- The program's state stands for the document's. -/
structure Rep (e : E) (s : S) : Prop where
  inv : Inv e
  val : e.V = s.N
  rng : e.rng = s.R
  len : e.out.length + e.wait = s.k

theorem Rep.new : Rep E.new S.new := by
  refine ⟨⟨by decide, by decide, by decide, fun h => ?_⟩, by decide, rfl, rfl⟩
  cases h

theorem Rep.shift {e : E} {s : S} (h : Rep e s) (r : Int) (hr0 : 0 < r) (hr1 : r ≤ e.rng * 256) (hr2 : r < 4294967296) : Rep { e.shift with rng := r } ⟨s.N * 256, r, s.k + 1⟩ := by
  refine ⟨shift_inv h.inv r hr0 hr1 hr2, ?_, rfl, ?_⟩
  · have := shift_V h.inv
    rw [h.val] at this
    exact this
  · have := shift_len e
    rw [h.len] at this
    exact this

theorem Rep.shift0 {e : E} {s : S} (h : Rep e s) (hr : e.rng < 4294967296) : Rep e.shift ⟨s.N * 256, e.rng, s.k + 1⟩ := by
  have := h.shift e.rng h.inv.r0 (by have := h.inv.r0; omega) hr
  have e1 : { e.shift with rng := e.rng } = e.shift := by rw [← shift_rng e]
  rwa [e1] at this
def E.shifts (e : E) : Nat → E
  | 0 => e
  | n + 1 => (E.shifts e n).shift

theorem Rep.bytes {e : E} {s : S} (h : Rep e s) (hr : e.rng < 4294967296) : e.shift.shift.shift.shift.shift.out = s.bytes ∧ e.shift.shift.shift.shift.shift.out.length = s.k + 5 := by
  have st : ∀ {e : E} {s : S}, Rep e s → e.rng < 4294967296 → Rep e.shift ⟨s.N * 256, e.rng, s.k + 1⟩ := by
    intro e s h hr
    have := h.shift e.rng h.inv.r0 (by have := h.inv.r0; omega) hr
    have e1 : { e.shift with rng := e.rng } = e.shift := by rw [← shift_rng e]
    rwa [e1] at this
  have h1 := st h hr
  have r1 := shift_rng e
  have h2 := st h1 (by rw [r1]; exact hr)
  have r2 := shift_rng e.shift
  have h3 := st h2 (by rw [r2, r1]; exact hr)
  have r3 := shift_rng e.shift.shift
  have h4 := st h3 (by rw [r3, r2, r1]; exact hr)
  have r4 := shift_rng e.shift.shift.shift
  have h5 := st h4 (by rw [r4, r3, r2, r1]; exact hr)
  have l0 := h.inv.l0
  have l1 := shift_low e
  have l2 := shift_low e.shift
  have l3 := shift_low e.shift.shift
  have l4 := shift_low e.shift.shift.shift
  have l4' : e.shift.shift.shift.shift.low = 0 := by omega
  have hv := h5.val
  have hl := h5.len
  generalize e.shift.shift.shift.shift = f at l4' hv hl ⊢
  have e5 : f.shift = ⟨0, f.rng, byteOf (f.low / 16777216), 0, f.shift.out⟩ := by
    unfold E.shift
    rw [if_pos (by omega), l4']
    rfl
  rw [e5] at hv hl
  simp only [E.V, Int.pow_zero, l4'] at hv hl
  have e6 : ((byteOf (0 / 16777216)).toNat : Int) = 0 := by rw [byteOf_toNat]; rfl
  rw [e6] at hv
  have hl5 : f.shift.out.length = s.k + 5 := by omega
  refine ⟨?_, hl5⟩
  unfold S.bytes
  exact digits_of hl5 (by omega)
end R
end Go.Proofs.Ytoejaggkedlfmaa

namespace Go.Proofs.Ytoejaggkedlfmaa
open Go
set_option linter.unusedSimpArgs false
set_option linter.unnecessarySimpa false
set_option linter.unusedSectionVars false
set_option linter.unusedVariables false
attribute [local irreducible] oMv oV oU oCall oCallV oBi oBin oUn oLoad oStore oNil oFld oField oIdx oIndex oPick oAlloc oBox oBuild oBs oConv oMk oSl oExt oFn oIface oMap oLook oMapUp oRange oNext oAssert oPanic oRes pN pA pL pDr pIf gA pGd

/-- An encoder's own state in block b. -/
def EncE (b : Nat) (e : R.E) : HA := fun h => ∃ s : Sl, Sats [cel b ⟨133, [.int .u64 e.low, .int .u32 e.rng, bv e.held, .int .i64 e.wait, .slice s.a e.out.length s.c]⟩, rows cd_uint8 s e.out] h
/-- An encoder, as the document's numbers. -/
def Enc (b : Nat) (s : R.S) : HA := fun h => ∃ e : R.E, R.Rep e s ∧ R.Ok s ∧ EncE b e h

section
variable {E w : World} {M : List HA} {Q : Value → World → Prop} {b : Nat} {e : R.E} {st : R.S}

theorem EncE.opn (hS : Sat E w (EncE b e :: M)) : ∃ s : Sl, Sat E w (cel b ⟨133, [.int .u64 e.low, .int .u32 e.rng, bv e.held, .int .i64 e.wait, .slice s.a e.out.length s.c]⟩ :: rows cd_uint8 s e.out :: M) := by
  obtain ⟨s, hS⟩ := hS.ex
  exact ⟨s, hS.open_ (M := [_, _]) fun _ h => h⟩
theorem EncE.shut {s : Sl} {L N : List HA} {o : Ob} {out : List UInt8} (hS : Sat E w L) (e : R.E) [h1 : Fnd (cel b) L o N] [h2 : Fnd (rows cd_uint8 s) N out M] (ho : o = ⟨133, [.int .u64 e.low, .int .u32 e.rng, bv e.held, .int .i64 e.wait, .slice s.a e.out.length s.c]⟩) (he : out = e.out) : Sat E w (EncE b e :: M) := by
  subst ho he
  exact Sat.shut (M := [_, _]) (hS.fd2 (cel b) (rows cd_uint8 s)) fun _ h => ⟨s, h⟩
theorem Enc.opn (hS : Sat E w (Enc b st :: M)) : ∃ e, R.Rep e st ∧ R.Ok st ∧ Sat E w (EncE b e :: M) := by
  obtain ⟨e, ⟨h1, h2⟩, hS⟩ := hS.opn (p := fun e => R.Rep e st ∧ R.Ok st) (B := fun e => EncE b e) fun hp ⟨e, h1, h2, h3⟩ => ⟨e, ⟨h1, h2⟩, h3⟩
  exact ⟨e, h1, h2, hS⟩
theorem Enc.shut (hS : Sat E w (EncE b e :: M)) (h1 : R.Rep e st) (h2 : R.Ok st) : Sat E w (Enc b st :: M) := hS.weaken fun _ h => ⟨e, h1, h2, h⟩

theorem shift_ok (hS : Sat E w (EncE b e :: M)) (i1 : 0 ≤ e.low) (i2 : e.low < 8589934592) (hl : e.out.length + e.wait + 1 ≤ 140737488355328) (hQ : ∀ w, Sat E w (EncE b e.shift :: M) → Q (.tuple #[]) w) : Calls Try.prog 75 #[.pointer (some ⟨b, 0, none⟩)] w (retP Q) := by
  refine rcenc_Encoder_shift.calls ?_
  unfold rcenc_Encoder_shift.F
  obtain ⟨s, hS⟩ := EncE.opn hS
  refine ⟨_, ?_, fun _ _ h => h⟩
  repeat' (first | ((first | refine pN_lss_s ?_ ?_ | refine pN_gtr_s ?_ ?_) <;> intro hc <;> try (exfalso; omega)) | refine pIf_t ?_ | refine pIf_f ?_ | refine pGd_go (by rfl) ?_ | refine pGd_no (by rfl) ?_ | refine pN_tob ?_ | refine pN_l hS (by first | rfl | assumption) ?_ | refine pL_l hS (by first | rfl | assumption) ?_ | (refine pN_s hS (by first | exact Nat.le_of_ble_eq_true rfl | assumption) (by rfl) ?_; clear hS; intro w hS; try simp only [List.set_cons_zero, List.set_cons_succ] at hS) | (refine pDr_go hS ?_; clear hS; intro w hS) | refine ⟨trivial, ?_⟩ | refine ⟨⟨(by first | exact run_l hS (by first | rfl | assumption) | exact run_st hS (by first | rfl | omega) | exact run_ld1 ha hS | exact fun _ => run_l hS (by rfl) | exact fun _ => run_st hS (by first | rfl | omega) | exact fun _ => run_ld1 ha hS | exact fun h => Bool.noConfusion h), trivial⟩, ?_⟩ | (refine pN_b1 hS (by rfl) (by decide) ?_; clear hS; intro s w hS) | (refine pN_app hS (by first | rfl | omega | simpa only [go_sem] using True.intro | (simp only [go_sem]; omega)) (by first | rfl | omega | simpa only [go_sem] using True.intro | (simp only [go_sem]; omega)) (by first | omega | (simp only [go_sem]; omega)) ?_; clear hS; intro s w hS) | refine pN_via (by (intro K; simp (disch := omega) only [go_sem, pN_min, pN_max, w_u32, w_u64, Option.isNone_some, Option.isNone_none]; (try simp only [wrap_u32, wrap_u64]); rfl)) ?_ | refine pA_via (by (intro K; simp (disch := omega) only [go_sem, pN_min, pN_max, w_u32, w_u64, Option.isNone_some, Option.isNone_none]; (try simp only [wrap_u32, wrap_u64]); rfl)) ?_ | fail)
  rotate_left 2
  · refine hQ _ ?_
    unfold R.E.shift
    rw [if_neg (by omega)]
    exact EncE.shut (b := b) (s := s) hS _ rfl rfl
  all_goals
    refine ⟨fun w => ∃ (j : Nat) (s : Sl), j ≤ e.wait ∧ Sat E w (cel b ⟨133, [.int .u64 e.low, .int .u32 e.rng, bv e.held, .int .i64 (e.wait - j : Nat), .slice s.a (e.out ++ [e.held + byteOf (e.low / 4294967296)] ++ List.replicate j (255 + byteOf (e.low / 4294967296))).length s.c]⟩ :: rows cd_uint8 s (e.out ++ [e.held + byteOf (e.low / 4294967296)] ++ List.replicate j (255 + byteOf (e.low / 4294967296))) :: M),
      fun w => wInt b 3 w, ⟨0, s, Nat.zero_le _, by simp only [List.replicate_zero, List.append_nil]; exact hS.to⟩, ?_⟩
    clear hS
    rintro _ w ⟨j, s, hj, hS⟩
    have hm := wInt_eq (b := b) (i := 3) hS rfl
    repeat' (first | (refine pN_gtr_s ?_ ?_ <;> intro hc <;> try (exfalso; omega)) | refine pIf_t ?_ | refine pIf_f ?_ | refine pN_tob ?_ | refine pN_l hS (by first | rfl | assumption) ?_ | (refine pN_s hS (by first | exact Nat.le_of_ble_eq_true rfl | assumption) (by rfl) ?_; clear hS; intro w hS; try simp only [List.set_cons_zero, List.set_cons_succ] at hS) | (refine pN_b1 hS (by rfl) (by decide) ?_; clear hS; intro s w hS) | (refine pN_app hS (by first | rfl | omega | simpa only [go_sem] using True.intro | (simp only [go_sem]; omega)) (by first | rfl | omega | simpa only [go_sem] using True.intro | (simp only [go_sem]; omega)) (by first | omega | (simp only [go_sem]; omega)) ?_; clear hS; intro s w hS) | refine pN_via (by (intro K; simp (disch := omega) only [go_sem, pN_min, pN_max, w_u32, w_u64, Option.isNone_some, Option.isNone_none]; (try simp only [wrap_u32, wrap_u64]); rfl)) ?_ | fail)
    · refine ⟨⟨j + 1, s, by omega, ?_⟩, ?_⟩
      · have e1 : ((e.wait - (j + 1) : Nat) : Int) = ((e.wait - j : Nat) : Int) - 1 := by omega
        rw [List.replicate_succ', ← List.append_assoc _ (List.replicate _ _), e1]
        exact hS.to
      · show wInt b 3 _ < wInt b 3 _
        rw [hm, wInt_eq (b := b) (i := 3) hS rfl]
        omega
    · refine hQ _ ?_
      unfold R.E.shift
      rw [if_pos (by omega)]
      obtain rfl : j = e.wait := by omega
      exact EncE.shut (b := b) (s := s) hS _ (by simp) rfl

theorem widen_ok (hS : Sat E w (EncE b e :: M)) (hi : R.Rep e st) (h1 : e.rng < 4294967296) (hl : st.k + 10 ≤ 140737488355328) (hQ : ∀ e' w, R.Rep e' st.widen → Sat E w (EncE b e' :: M) → Q (.tuple #[]) w) : Calls Try.prog 74 #[.pointer (some ⟨b, 0, none⟩)] w (retP Q) := by
  refine rcenc_Encoder_widen.calls ?_
  unfold rcenc_Encoder_widen.F
  have i0 := hi.inv.r0
  have j0 := hi.rng
  refine ⟨fun w => ∃ (e' : R.E) (st' : R.S), R.Rep e' st' ∧ st'.widen = st.widen ∧ e'.rng < 4294967296 ∧ st'.k ≤ st'.widen.k ∧ Sat E w (EncE b e' :: M), fun w => 16777216 - wInt b 1 w, ⟨e, st, hi, rfl, h1, R.widen_mono st, hS⟩, ?_⟩
  clear hS
  rintro _ w ⟨e', st', hr, hw, h2, hk, hS⟩
  obtain ⟨s, hS⟩ := EncE.opn hS
  have i1 := hr.inv.l0
  have i2 := hr.inv.sum
  have i3 := hr.inv.r0
  have i4 := hr.rng
  have i5 := hr.len
  have i6 := (R.widen_k _ st rfl (by omega)).1
  rw [hw] at hk
  have hm := wInt_eq (b := b) (i := 1) hS rfl
  repeat' (first | (refine pN_lss_s ?_ ?_ <;> intro hc <;> try (exfalso; omega)) | refine pIf_t ?_ | refine pIf_f ?_ | refine pN_l hS (by first | rfl | assumption) ?_ | (refine pN_s hS (by first | exact Nat.le_of_ble_eq_true rfl | assumption) (by rfl) ?_; clear hS; intro w hS; try simp only [List.set_cons_zero, List.set_cons_succ] at hS) | refine pN_via (by (intro K; simp (disch := omega) only [go_sem, pN_min, pN_max, w_u32, w_u64, Option.isNone_some, Option.isNone_none]; (try simp only [wrap_u32, wrap_u64]); rfl)) ?_ | fail)
  · have hS := EncE.shut (b := b) (s := s) hS { e' with rng := e'.rng * 256 } rfl rfl
    refine pc_rcenc_Encoder_shift (shift_ok hS i1 (by simp only; omega) (by simp only; omega) fun w hS => ?_)
    rw [R.shift_with] at hS
    have hr' := hr.shift (e'.rng * 256) (by omega) (by omega) (by omega)
    refine ⟨⟨_, _, hr', ?_, by simp only; omega, R.widen_mono _, hS⟩, ?_⟩
    · rw [i4, ← R.S.widen_go (by omega) (by omega), hw]
    · obtain ⟨s, hS⟩ := EncE.opn hS
      show 16777216 - wInt b 1 _ < 16777216 - wInt b 1 _
      rw [hm, wInt_eq (b := b) (i := 1) hS rfl]
      simp only
      omega
  · rw [← hw, R.S.widen_no (by omega)] at hQ
    exact hQ _ _ hr (EncE.shut (b := b) (s := s) hS e' rfl rfl)

theorem NewE_ok (hS : Sat E w M) (hQ : ∀ b w, Sat E w (Enc b R.S.new :: M) → Q (.pointer (some ⟨b, 0, none⟩)) w) : Calls Try.prog 18 #[] w (retP Q) := by
  refine rcenc_New.calls ?_
  unfold rcenc_New.F
  repeat' (first | (refine pN_bx hS (by rfl) ?_; clear hS; intro a w hS) | refine pN_via (by (intro K; simp (disch := omega) only [go_sem, pN_min, pN_max, w_u32, w_u64, Option.isNone_some, Option.isNone_none]; (try simp only [wrap_u32, wrap_u64]); rfl)) ?_ | fail)
  have hS : Sat E w (rows cd_uint8 ⟨none, 0⟩ [] :: cel a _ :: M) := hS.nil 5 1
  exact hQ _ _ (Enc.shut (EncE.shut (b := a) (s := ⟨none, 0⟩) hS R.E.new rfl rfl) R.Rep.new R.Ok.new)

theorem Bit_ok {p : Nat} {l : List Int} (hS : Sat E w (Enc b st :: PSet p l :: M)) (hf : B.Fine l) (hk : st.k + 10 ≤ 140737488355328) (i bit : Int)
    (hQ : ∀ w, Sat E w (Enc b (if 0 ≤ i ∧ i < l.length then st.cut (B.bound st.R (l.getD i.toNat 0)) bit else st) :: PSet p (if 0 ≤ i ∧ i < l.length then l.set i.toNat (B.next (l.getD i.toNat 0) bit) else l) :: M) → Q (.int .i64 (if 0 ≤ i ∧ i < l.length then 0 else 7)) w) :
    Calls Try.prog 27 #[.pointer (some ⟨b, 0, none⟩), .pointer (some ⟨p, 0, none⟩), .int .i64 i, .int .i64 bit] w (retP Q) := by
  refine rcenc_Encoder_Bit.calls ?_
  unfold rcenc_Encoder_Bit.F
  refine pc_prob_Set_At (At_ok (hS.fd (PSet p)) i fun w hS => ?_)
  by_cases h : 0 ≤ i ∧ i < l.length
  · simp only [if_pos h] at hQ ⊢
    have hx : l[i.toNat]? = some (l.getD i.toNat 0) := by
      rw [List.getD_eq_getElem?_getD, List.getElem?_eq_getElem (show i.toNat < l.length by omega)]; rfl
    generalize l.getD i.toNat 0 = x at hQ hx ⊢
    have hp := hf.get hx
    obtain ⟨e, hr, ho, hS⟩ := Enc.opn (hS.fd (Enc b))
    obtain ⟨s, hS⟩ := EncE.opn hS
    have j1 := hr.rng
    have j2 := hr.inv.l0
    have j3 := hr.inv.sum
    have j4 := ho.r0
    have j5 := ho.r1
    have c1 := B.bound_pos (rng := st.R) (p := x) j4 hp.1
    have c2 := B.bound_lt (rng := st.R) (p := x) j4
    have hc2 := ho.cut (B.bound st.R x) bit c1 c2
    have fin : ∀ (e' : R.E) (st' : R.S) (w : World), R.Rep e' st' → e'.rng < 4294967296 → st'.k = st.k → st'.widen = st.cut (B.bound st.R x) bit → Sat E w (EncE b e' :: PSet p l :: M) →
        pN Try.prog (oCall 74 [.pointer (some ⟨b, 0, none⟩)]) w fun _ w29 => pN Try.prog (oCall 62 [.pointer (some ⟨p, 0, none⟩), .int .i64 i, .int .i64 bit]) w29 fun x54 w30 => Q x54 w30 := by
      intro e' st' w h1 h2 h3 h4 hS
      refine pc_rcenc_Encoder_widen (widen_ok hS h1 h2 (by omega) fun e'' w hr' hS => ?_)
      rw [h4] at hr'
      refine pc_prob_Set_Turn (Turn_ok (hS.fd (PSet p)) i bit fun w hS => ?_)
      simp only [if_pos h] at hS ⊢
      have e : l.getD i.toNat 0 = x := by rw [List.getD_eq_getElem?_getD, hx]; rfl
      rw [e] at hS
      exact hQ _ (Enc.shut (hS.fd (EncE b)) hr' hc2)
    repeat' (first | (refine pN_neq_s ?_ ?_ <;> intro hc <;> try (exfalso; first | omega | exact hc rfl | exact hc (by assumption) | exact absurd hc (by assumption))) | refine pIf_f ?_ | refine pN_l hS (by first | rfl | assumption) ?_ | refine pN_via (by (intro K; simp (disch := omega) only [go_sem, pN_min, pN_max, w_u32, w_u64, Option.isNone_some, Option.isNone_none]; (try simp only [wrap_u32, wrap_u64]); rfl)) ?_ | fail)
    refine pc_prob_Bound (Bound_ok _ x (by omega) (by omega) ?_)
    rw [j1]
    rw [j1] at hS
    repeat' (first | (refine pN_eql_s ?_ ?_ <;> intro hc <;> try (exfalso; first | omega | exact hc rfl | exact hc (by assumption) | exact absurd hc (by assumption))) | refine pIf_t ?_ | refine pIf_f ?_ | refine pN_l hS (by first | rfl | assumption) ?_ | (refine pN_s hS (by first | exact Nat.le_of_ble_eq_true rfl | assumption) (by rfl) ?_; clear hS; intro w hS; try simp only [List.set_cons_zero, List.set_cons_succ] at hS) | refine pN_via (by (intro K; simp (disch := omega) only [go_sem, pN_min, pN_max, w_u32, w_u64, Option.isNone_some, Option.isNone_none]; (try simp only [wrap_u32, wrap_u64]); rfl)) ?_ | refine ⟨_, ?_, fun _ _ h => h⟩ | fail)
    · refine fin { e with rng := B.bound st.R x } ⟨st.N, B.bound st.R x, st.k⟩ _ ⟨⟨j2, c1, by simp only; omega, fun hh => ?_⟩, hr.val, rfl, hr.len⟩ (by simp only; omega) rfl (by rw [R.S.cut, if_pos hc]) (EncE.shut (b := b) (s := s) hS _ rfl rfl)
      have := hr.inv.held hh
      simp only
      omega
    · refine fin { e with low := e.low + B.bound st.R x, rng := st.R - B.bound st.R x } ⟨st.N + B.bound st.R x, st.R - B.bound st.R x, st.k⟩ _ ⟨⟨by simp only; omega, by simp only; omega, by simp only; omega, fun hh => ?_⟩, ?_, rfl, hr.len⟩ (by simp only; omega) rfl (by rw [R.S.cut, if_neg hc]) (EncE.shut (b := b) (s := s) hS _ rfl rfl)
      · have := hr.inv.held hh
        simp only
        omega
      · have := hr.val
        simp only [R.E.V] at this ⊢
        omega
  · simp only [if_neg h] at hQ ⊢
    repeat' (first | (refine pN_neq_s ?_ ?_ <;> intro hc <;> try (exfalso; first | omega | exact hc rfl | exact hc (by assumption) | exact absurd hc (by assumption))) | refine pIf_t ?_ | refine pN_via (by (intro K; simp (disch := omega) only [go_sem, pN_min, pN_max, w_u32, w_u64, Option.isNone_some, Option.isNone_none]; (try simp only [wrap_u32, wrap_u64]); rfl)) ?_ | fail)
    exact hQ _ hS.to

theorem Direct_ok (hS : Sat E w (Enc b st :: M)) (hk : st.k + 50 ≤ 140737488355328) (v n : Int) (v0 : 0 ≤ v) (v1 : v < 4294967296)
    (hQ : ∀ w, Sat E w (Enc b (if 0 ≤ n ∧ n ≤ 32 then st.direct v n.toNat else st) :: M) → Q (.int .i64 (if 0 ≤ n ∧ n ≤ 32 then 0 else 7)) w) :
    Calls Try.prog 19 #[.pointer (some ⟨b, 0, none⟩), .int .u32 v, .int .i64 n] w (retP Q) := by
  refine rcenc_Encoder_Direct.calls ?_
  unfold rcenc_Encoder_Direct.F
  by_cases h : 0 ≤ n ∧ n ≤ 32
  · simp only [if_pos h] at hQ
    repeat' (first | ((first | refine pN_lss_s ?_ ?_ | refine pN_gtr_s ?_ ?_) <;> intro hc <;> try (exfalso; omega)) | refine pIf_f ?_ | refine pGd_go (by rfl) ?_ | refine pN_via (by (intro K; simp (disch := omega) only [go_sem, pN_min, pN_max, w_u32, w_u64, Option.isNone_some, Option.isNone_none]; (try simp only [wrap_u32, wrap_u64]); rfl)) ?_ | fail)
    refine ⟨fun x w => ∃ (m : Nat) (st' : R.S), x = .int .i64 ((m : Int) - 1) ∧ m ≤ n.toNat ∧ st'.direct v m = st.direct v n.toNat ∧ st'.k + m ≤ st.k + n.toNat ∧ Sat E w (Enc b st' :: M), fun x _ => (RowKit.intOf x + 1).toNat,
      ⟨n.toNat, st, by rw [Int.toNat_of_nonneg h.1], Nat.le_refl _, rfl, Nat.le_refl _, hS⟩, ?_⟩
    clear hS
    rintro _ _ w ⟨m, st', rfl, hm, hd, hk', hS⟩
    obtain ⟨e, hr, ho, hS⟩ := Enc.opn hS
    obtain ⟨s, hS⟩ := EncE.opn hS
    have j1 := hr.rng
    have j2 := hr.inv.l0
    have j3 := hr.inv.sum
    have j4 := ho.r0
    have j5 := ho.r1
    rw [j1] at hS
    repeat' (first | (refine pN_geq_s ?_ ?_ <;> intro hc <;> try (exfalso; omega)) | refine pIf_t ?_ | refine pIf_f ?_ | refine pN_l hS (by first | rfl | assumption) ?_ | (refine pN_s hS (by first | exact Nat.le_of_ble_eq_true rfl | assumption) (by rfl) ?_; clear hS; intro w hS; try simp only [List.set_cons_zero, List.set_cons_succ] at hS) | refine pN_via (by (intro K; simp (disch := omega) only [go_sem, pN_min, pN_max, w_u32, w_u64, Option.isNone_some, Option.isNone_none]; (try simp only [wrap_u32, wrap_u64]); rfl)) ?_ | refine ⟨_, ?_, fun _ _ h => h⟩ | fail)
    · obtain ⟨j, rfl⟩ : ∃ j, m = j + 1 := ⟨m - 1, by omega⟩
      refine pN_shr_k j (by omega) (by show _ ≤ 32; omega) ?_
      have hkk := R.one_k ho (v / 2 ^ j % 2)
      have hoo := ho.one (v / 2 ^ j % 2)
      repeat' (first | (refine pN_eql_s ?_ ?_ <;> intro hc <;> try (exfalso; first | omega | exact hc rfl | exact hc (by assumption) | exact absurd hc (by assumption))) | refine pIf_t ?_ | refine pIf_f ?_ | refine pL_l hS (by first | rfl | assumption) ?_ | (refine pN_s hS (by first | exact Nat.le_of_ble_eq_true rfl | assumption) (by rfl) ?_; clear hS; intro w hS; try simp only [List.set_cons_zero, List.set_cons_succ] at hS) | (refine pDr_go hS ?_; clear hS; intro w hS) | refine ⟨trivial, ?_⟩ | refine pN_via (by (intro K; simp (disch := omega) only [go_sem, pN_min, pN_max, w_u32, w_u64, Option.isNone_some, Option.isNone_none]; (try simp only [wrap_u32, wrap_u64]); rfl)) ?_ | refine pA_via (by (intro K; simp (disch := omega) only [go_sem, pN_min, pN_max, w_u32, w_u64, Option.isNone_some, Option.isNone_none]; (try simp only [wrap_u32, wrap_u64]); rfl)) ?_ | refine pL_via (by (intro K; simp (disch := omega) only [go_sem, pN_min, pN_max, w_u32, w_u64, Option.isNone_some, Option.isNone_none]; (try simp only [wrap_u32, wrap_u64]); rfl)) ?_ | fail)
      · have hS := EncE.shut (b := b) (s := s) hS { e with low := e.low + st'.R / 2, rng := st'.R / 2 } rfl rfl
        refine pc_rcenc_Encoder_widen (widen_ok (st := ⟨st'.N + st'.R / 2, st'.R / 2, st'.k⟩) hS ⟨⟨by simp only; omega, by simp only; omega, by simp only; omega, fun hh => ?_⟩, ?_, rfl, hr.len⟩ (by simp only; omega) (by simp only; omega) fun e' w hr' hS => ?_)
        · have := hr.inv.held hh
          simp only
          omega
        · have := hr.val
          simp only [R.E.V] at this ⊢
          omega
        · have e1 : R.S.widen ⟨st'.N + st'.R / 2, st'.R / 2, st'.k⟩ = st'.one (v / 2 ^ j % 2) := by rw [R.S.one, if_pos hc]
          rw [e1] at hr'
          repeat' (first | refine pN_via (by (intro K; simp (disch := omega) only [go_sem, pN_min, pN_max, w_u32, w_u64, Option.isNone_some, Option.isNone_none]; (try simp only [wrap_u32, wrap_u64]); rfl)) ?_ | fail)
          exact ⟨⟨j, _, by congr 1; omega, by omega, hd, by omega, Enc.shut hS hr' hoo⟩, by simp [RowKit.intOf] <;> omega⟩
      · have hS := EncE.shut (b := b) (s := s) hS { e with rng := st'.R / 2 } rfl rfl
        refine pc_rcenc_Encoder_widen (widen_ok (st := ⟨st'.N, st'.R / 2, st'.k⟩) hS ⟨⟨j2, by simp only; omega, by simp only; omega, fun hh => ?_⟩, hr.val, rfl, hr.len⟩ (by simp only; omega) (by simp only; omega) fun e' w hr' hS => ?_)
        · have := hr.inv.held hh
          simp only
          omega
        · have e1 : R.S.widen ⟨st'.N, st'.R / 2, st'.k⟩ = st'.one (v / 2 ^ j % 2) := by rw [R.S.one, if_neg hc]
          rw [e1] at hr'
          repeat' (first | refine pN_via (by (intro K; simp (disch := omega) only [go_sem, pN_min, pN_max, w_u32, w_u64, Option.isNone_some, Option.isNone_none]; (try simp only [wrap_u32, wrap_u64]); rfl)) ?_ | fail)
          exact ⟨⟨j, _, by congr 1; omega, by omega, hd, by omega, Enc.shut hS hr' hoo⟩, by simp [RowKit.intOf] <;> omega⟩
    · obtain rfl : m = 0 := by omega
      rw [← hd] at hQ
      refine hQ _ (Enc.shut (EncE.shut (b := b) (s := s) hS e ?_ rfl) hr ho)
      rw [j1]
  · simp only [if_neg h] at hQ
    repeat' (first | ((first | refine pN_lss_s ?_ ?_ | refine pN_gtr_s ?_ ?_) <;> intro hc <;> try (exfalso; omega)) | refine pIf_t ?_ | refine pGd_go (by rfl) ?_ | refine pGd_no (by rfl) ?_ | refine pN_via (by (intro K; simp (disch := omega) only [go_sem, pN_min, pN_max, w_u32, w_u64, Option.isNone_some, Option.isNone_none]; (try simp only [wrap_u32, wrap_u64]); rfl)) ?_ | fail)
    all_goals exact hQ _ hS

theorem Bit_in {p : Nat} {l : List Int} (hS : Sat E w (Enc b st :: PSet p l :: M)) (hf : B.Fine l) (hk : st.k + 10 ≤ 140737488355328) (i bit : Int) {x : Int} (h0 : 0 ≤ i) (hx : l[i.toNat]? = some x)
    (hQ : ∀ w, Sat E w (Enc b (st.cut (B.bound st.R x) bit) :: PSet p (l.set i.toNat (B.next x bit)) :: M) → Q (.int .i64 0) w) :
    Calls Try.prog 27 #[.pointer (some ⟨b, 0, none⟩), .pointer (some ⟨p, 0, none⟩), .int .i64 i, .int .i64 bit] w (retP Q) := by
  have hlt : i.toNat < l.length := (List.getElem?_eq_some_iff.1 hx).1
  refine Bit_ok hS hf hk i bit fun w hS => ?_
  have e : l.getD i.toNat 0 = x := by rw [List.getD_eq_getElem?_getD, hx]; rfl
  rw [if_pos (by omega), if_pos (by omega), e] at hS
  rw [if_pos (by omega)]
  exact hQ w hS
theorem Bit_no {p : Nat} {l : List Int} (hS : Sat E w (Enc b st :: PSet p l :: M)) (hf : B.Fine l) (hk : st.k + 10 ≤ 140737488355328) (i bit : Int) (h : ¬ (0 ≤ i ∧ i < l.length))
    (hQ : ∀ w, Sat E w (Enc b st :: PSet p l :: M) → Q (.int .i64 7) w) :
    Calls Try.prog 27 #[.pointer (some ⟨b, 0, none⟩), .pointer (some ⟨p, 0, none⟩), .int .i64 i, .int .i64 bit] w (retP Q) := by
  refine Bit_ok hS hf hk i bit fun w hS => ?_
  rw [if_neg h, if_neg h] at hS
  rw [if_neg h]
  exact hQ w hS
theorem Direct_in (hS : Sat E w (Enc b st :: M)) (hk : st.k + 50 ≤ 140737488355328) (v : Int) (n : Nat) (v0 : 0 ≤ v) (v1 : v < 4294967296) (hn : n ≤ 32)
    (hQ : ∀ w, Sat E w (Enc b (st.direct v n) :: M) → Q (.int .i64 0) w) :
    Calls Try.prog 19 #[.pointer (some ⟨b, 0, none⟩), .int .u32 v, .int .i64 n] w (retP Q) := by
  refine Direct_ok hS hk v n v0 v1 fun w hS => ?_
  rw [if_pos (by omega), Int.toNat_natCast] at hS
  rw [if_pos (by omega)]
  exact hQ w hS
theorem Direct_no (hS : Sat E w (Enc b st :: M)) (hk : st.k + 50 ≤ 140737488355328) (v n : Int) (v0 : 0 ≤ v) (v1 : v < 4294967296) (h : ¬ (0 ≤ n ∧ n ≤ 32))
    (hQ : ∀ w, Sat E w (Enc b st :: M) → Q (.int .i64 7) w) :
    Calls Try.prog 19 #[.pointer (some ⟨b, 0, none⟩), .int .u32 v, .int .i64 n] w (retP Q) := by
  refine Direct_ok hS hk v n v0 v1 fun w hS => ?_
  rw [if_neg h] at hS
  rw [if_neg h]
  exact hQ w hS

theorem Size_ok (hS : Sat E w (Enc b st :: M)) (hk : st.k ≤ 140737488355328) (hQ : ∀ w, Sat E w (Enc b st :: M) → Q (.int .i64 (st.k + 5 : Nat)) w) :
    Calls Try.prog 21 #[.pointer (some ⟨b, 0, none⟩)] w (retP Q) := by
  refine rcenc_Encoder_Size.calls ?_
  unfold rcenc_Encoder_Size.F
  obtain ⟨e, hr, ho, hS⟩ := Enc.opn hS
  obtain ⟨s, hS⟩ := EncE.opn hS
  have j := hr.len
  repeat' (first | refine pL_l hS (by first | rfl | assumption) ?_ | (refine pDr_go hS ?_; clear hS; intro w hS) | refine pA_via (by (intro K; simp (disch := omega) only [go_sem, pN_min, pN_max, w_u32, w_u64, Option.isNone_some, Option.isNone_none]; (try simp only [wrap_u32, wrap_u64]); rfl)) ?_ | fail)
  have e1 : ((e.out.length : Int) + 1 + (e.wait : Int) + 4) = ((st.k + 5 : Nat) : Int) := by omega
  rw [e1]
  exact hQ _ (Enc.shut (EncE.shut (b := b) (s := s) hS e rfl rfl) hr ho)

theorem ForkE_ok (hS : Sat E w (EncE b e :: M)) (hk : e.out.length + e.wait + 8 ≤ 140737488355328) (hQ : ∀ c w, Sat E w (EncE c e :: EncE b e :: M) → Q (.pointer (some ⟨c, 0, none⟩)) w) :
    Calls Try.prog 36 #[.pointer (some ⟨b, 0, none⟩)] w (retP Q) := by
  refine rcenc_Encoder_Fork.calls ?_
  unfold rcenc_Encoder_Fork.F
  obtain ⟨s0, hS⟩ := EncE.opn hS
  repeat' (first | refine pL_l hS (by first | rfl | assumption) ?_ | refine pN_la hS (by rfl) ?_ | (refine pN_s hS (by first | exact Nat.le_of_ble_eq_true rfl | assumption) (by rfl) ?_; clear hS; intro w hS; try simp only [List.set_cons_zero, List.set_cons_succ] at hS) | (refine pN_sa hS (by rfl) (by rfl) (by rfl) ?_; clear hS; intro w hS; try dsimp only at hS) | (refine pDr_go hS ?_; clear hS; intro w hS) | (refine pN_nz hS ?_; clear hS; intro a w hS) | refine ⟨trivial, ?_⟩ | refine ⟨⟨(by first | exact run_l hS (by first | rfl | assumption) | exact run_st hS (by first | rfl | omega) | exact run_ld1 ha hS | exact fun _ => run_l hS (by rfl) | exact fun _ => run_st hS (by first | rfl | omega) | exact fun _ => run_ld1 ha hS | exact fun h => Bool.noConfusion h), trivial⟩, ?_⟩ | (refine pN_app hS (by first | rfl | omega | simpa only [go_sem] using True.intro | (simp only [go_sem]; omega)) (by first | rfl | omega | simpa only [go_sem] using True.intro | (simp only [go_sem]; omega)) (by first | omega | (simp only [go_sem]; omega)) ?_; clear hS; intro s w hS) | (refine pN_mk0 hS _ (by first | rfl | (exact (Int.toNat_of_nonneg (by omega)).symm)) (by first | omega | (simp only [go_sem]; omega)) ?_; clear hS; intro s w hS) | refine pN_via (by (intro K; simp (disch := omega) only [go_sem, pN_min, pN_max, w_u32, w_u64, Option.isNone_some, Option.isNone_none]; (try simp only [wrap_u32, wrap_u64]); rfl)) ?_ | refine pA_via (by (intro K; simp (disch := omega) only [go_sem, pN_min, pN_max, w_u32, w_u64, Option.isNone_some, Option.isNone_none]; (try simp only [wrap_u32, wrap_u64]); rfl)) ?_ | fail)
  exact hQ _ _ (EncE.shut (b := a) (s := s) (EncE.shut (b := b) (s := s0) hS e rfl rfl) e rfl rfl)

theorem Fork_ok' (hS : Sat E w (Enc b st :: M)) (hk : st.k + 8 ≤ 140737488355328) (hQ : ∀ c w, Sat E w (Enc c st :: Enc b st :: M) → Q (.pointer (some ⟨c, 0, none⟩)) w) :
    Calls Try.prog 36 #[.pointer (some ⟨b, 0, none⟩)] w (retP Q) := by
  obtain ⟨e, hr, ho, hS⟩ := Enc.opn hS
  have j := hr.len
  refine ForkE_ok hS (by omega) fun c w hS => hQ c w ?_
  exact (Enc.shut ((Enc.shut hS hr ho).fd (EncE b)) hr ho).to

theorem Bytes_ok (hS : Sat E w (Enc b st :: M)) (hk : st.k + 18 ≤ 140737488355328) (hQ : ∀ s w, Sat E w (rows cd_uint8 s st.bytes :: Enc b st :: M) → Q (.slice s.a st.bytes.length s.c) w) :
    Calls Try.prog 20 #[.pointer (some ⟨b, 0, none⟩)] w (retP Q) := by
  refine rcenc_Encoder_Bytes.calls ?_
  unfold rcenc_Encoder_Bytes.F
  obtain ⟨e, hr, ho, hS⟩ := Enc.opn hS
  have j := hr.len
  have j1 := hr.rng
  have j2 := ho.r1
  refine pc_rcenc_Encoder_Fork (ForkE_ok hS (by omega) fun c w hS => ?_)
  have hS := Enc.shut (hS.fd (EncE b)) hr ho
  refine ⟨fun x w => ∃ (m : Nat) (e' : R.E) (st' : R.S), x = .int .i64 m ∧ m ≤ 5 ∧ R.Rep e' st' ∧ e'.rng < 4294967296 ∧ st'.k = st.k + m ∧ e.shifts m = e' ∧ Sat E w (EncE c e' :: Enc b st :: M), fun x _ => 5 - (RowKit.intOf x).toNat,
    ⟨0, e, st, rfl, by omega, hr, by omega, rfl, rfl, hS.to⟩, ?_⟩
  clear hS
  rintro _ _ w ⟨m, e', st', rfl, hm, hr', h1, h2, h3, hS⟩
  have k1 := hr'.inv.l0
  have k2 := hr'.inv.sum
  have k3 := hr'.inv.r0
  have k4 := hr'.len
  repeat' (first | (refine pN_lss_s ?_ ?_ <;> intro hc <;> try (exfalso; omega)) | refine pIf_t ?_ | refine pIf_f ?_ | refine pN_via (by (intro K; simp (disch := omega) only [go_sem, pN_min, pN_max, w_u32, w_u64, Option.isNone_some, Option.isNone_none]; (try simp only [wrap_u32, wrap_u64]); rfl)) ?_ | fail)
  · refine pc_rcenc_Encoder_shift (shift_ok hS k1 (by omega) (by omega) fun w hS => ?_)
    repeat' (first | refine pN_via (by (intro K; simp (disch := omega) only [go_sem, pN_min, pN_max, w_u32, w_u64, Option.isNone_some, Option.isNone_none]; (try simp only [wrap_u32, wrap_u64]); rfl)) ?_ | fail)
    refine ⟨⟨m + 1, _, _, rfl, by omega, hr'.shift0 h1, by rw [R.shift_rng]; exact h1, by simp only; omega, ?_, hS⟩, by simp [RowKit.intOf] <;> omega⟩
    rw [R.E.shifts, h3]
  · obtain rfl : m = 5 := by omega
    have hb := (hr.bytes (by omega)).1
    have e1 : e.shifts 5 = e.shift.shift.shift.shift.shift := rfl
    rw [← e1, h3] at hb
    obtain ⟨s, hS⟩ := EncE.opn hS
    repeat' (first | refine pN_l hS (by first | rfl | assumption) ?_ | fail)
    rw [hb] at hS ⊢
    exact hQ _ _ hS.to
end

end Go.Proofs.Ytoejaggkedlfmaa
