/-
  Printed by a program of mine (lift.py): each function of the seat as a plain proposition over values and worlds; that the program meets it.
-/
import Derived.Test.YtbgnnjfpiblkmaaDoorRows
import Derived.Test.YtbgnnjfpiblkmaaDoorFacts
namespace Go.Proofs.YtbgnnjfpiblkmaaDoor
open Go
set_option linter.unusedSimpArgs false
set_option linter.unnecessarySimpa false
set_option linter.unusedSectionVars false
set_option linter.unusedVariables false
set_option maxRecDepth 100000

/-! prob_Set_Fork: (*pith/prob.Set).Fork; temporaries: 0:s 1:s -/
def prob_Set_Fork.H : Hints := { cut := fun  | _ => none, loop := fun  | _ => ([], 0), order := fun  | _ => [] }
def prob_Set_Fork.F [Pan] (x0 : Value) (w : World) (Q : Value → World → Prop) : Prop :=
 pN Tryd.prog (oNil x0) w fun x4 w1 =>
 pN Tryd.prog (oFld 112 x4 0) w1 fun x5 w2 =>
 pN Tryd.prog (oLoad 102 x5) w2 fun x6 w3 =>
 pN Tryd.prog (oBi .append #[102, 102] 102 [true, false] [(.slice none 0 0), x6]) w3 fun x7 w4 =>
 pN Tryd.prog (oBuild 112 [(0, x7)]) w4 fun x8 w5 =>
 pN Tryd.prog (oBox 112 x8) w5 fun x9 w6 =>
 Q x9 w6
noncomputable def prob_Set_Fork.c : Code := match Tryd.f41.body with | some c => c | none => .skip
theorem prob_Set_Fork.eq [Pan] (x0 : Value) (w : World) (Q : Value → World → Prop) : cw Tryd.prog prob_Set_Fork.H prob_Set_Fork.c (endQ Tryd.prog Tryd.f41.results.toList Q) (argsE [x0]) w = prob_Set_Fork.F x0 w Q := by kernel_rfl
theorem prob_Set_Fork.calls [Pan] {x0 : Value} {w : World} {Q : Value → World → Prop} (h : prob_Set_Fork.F x0 w Q) : Calls Tryd.prog 41 #[x0] w (retP Q) :=
  calls_of_cw (H := prob_Set_Fork.H) (c := prob_Set_Fork.c) (args := [x0]) mixed Tryd.func41 (by kernel_rfl) (by kernel_rfl) (Nat.le_of_ble_eq_true (by kernel_rfl)) ((prob_Set_Fork.eq x0 w Q).mpr h)

/-! prob_New: pith/prob.New; temporaries: 0:n 1:n 4:s -/
def prob_New.H : Hints := { cut := fun  | _ => none, loop := fun  | _ => ([], 0), order := fun  | _ => [] }
def prob_New.F [Pan] (x0 : Value) (w : World) (Q : Value → World → Prop) : Prop :=
 pN Tryd.prog (oBin .lss 3 (.tmp 5) (.const (.int .i64 0)) x0 (.int .i64 0)) w fun x6 w1 =>
 pGd (gB x6 false) (pN Tryd.prog (oMv x0) w1) w1 fun x8 w2 =>
 pGd (gB x6 false) (pN Tryd.prog (oBin .gtr 3 (.tmp 8) (.const (.int .i64 1048576)) x8 (.int .i64 1048576)) w2) w2 fun x9 w3 =>
 pN Tryd.prog (oPick x6 (.bool true) x9) w3 fun x10 w4 =>
 pIf x10
 (Q (.tuple #[(.pointer none), (.int .i64 7)]) w4)
 (pN Tryd.prog (oMk 102 x0 x0) w4 fun x12 w5 =>
 pN Tryd.prog (oBuild 112 [(0, x12)]) w5 fun x13 w6 =>
 pN Tryd.prog (oBox 112 x13) w6 fun x14 w7 =>
 pN Tryd.prog (oCall 56 [x14]) w7 fun _ w8 =>
 Q (.tuple #[x14, (.int .i64 0)]) w8)
noncomputable def prob_New.c : Code := match Tryd.f43.body with | some c => c | none => .skip
theorem prob_New.eq [Pan] (x0 : Value) (w : World) (Q : Value → World → Prop) : cw Tryd.prog prob_New.H prob_New.c (endQ Tryd.prog Tryd.f43.results.toList Q) (argsE [x0]) w = prob_New.F x0 w Q := by kernel_rfl
theorem prob_New.calls [Pan] {x0 : Value} {w : World} {Q : Value → World → Prop} (h : prob_New.F x0 w Q) : Calls Tryd.prog 43 #[x0] w (retP Q) :=
  calls_of_cw (H := prob_New.H) (c := prob_New.c) (args := [x0]) mixed Tryd.func43 (by kernel_rfl) (by kernel_rfl) (Nat.le_of_ble_eq_true (by kernel_rfl)) ((prob_New.eq x0 w Q).mpr h)

/-! prob_Set_Reset: (*pith/prob.Set).Reset; temporaries: 0:s 1:s 2:i -/
def prob_Set_Reset.H : Hints := { cut := fun  | _ => none, loop := fun | 1 => ([8], 261892) | _ => ([], 0), order := fun  | _ => [] }
def prob_Set_Reset.F [Pan] (x0 : Value) (w : World) (Q : Value → World → Prop) : Prop :=
 pN Tryd.prog (oNil x0) w fun x4 w1 =>
 pN Tryd.prog (oFld 112 x4 0) w1 fun x5 w2 =>
 pN Tryd.prog (oLoad 102 x5) w2 fun x6 w3 =>
 pN Tryd.prog (oBi .len #[102] 3 [false] [x6]) w3 fun x7 w4 =>
 ∃ (L1 : Value → World → Prop) (m1 : Value → World → Nat),
 L1 (.int .i64 0) w4 ∧
 ∀ (_k1 : Env) (v8l1 : Value) (w5 : World), L1 v8l1 w5 →
 pN Tryd.prog (oBin .lss 3 (.tmp 8) (.tmp 7) v8l1 x7) w5 fun x9 w6 =>
 pIf x9
 (pN Tryd.prog (oNil x0) w6 fun x12 w7 =>
 pN Tryd.prog (oFld 112 x12 0) w7 fun x13 w8 =>
 pN Tryd.prog (oLoad 102 x13) w8 fun x14 w9 =>
 pN Tryd.prog (oIdx 102 x14 v8l1) w9 fun x16 w10 =>
 pN Tryd.prog (oStore 3 x16 (.int .i64 1024)) w10 fun _ w11 =>
 pN Tryd.prog (oBin .add 3 (.tmp 8) (.const (.int .i64 1)) v8l1 (.int .i64 1)) w11 fun x17 w12 =>
 (L1 x17 w12 ∧ m1 x17 w12 < m1 v8l1 w5))
 (Q (.tuple #[]) w6)
noncomputable def prob_Set_Reset.c : Code := match Tryd.f56.body with | some c => c | none => .skip
theorem prob_Set_Reset.eq [Pan] (x0 : Value) (w : World) (Q : Value → World → Prop) : cw Tryd.prog prob_Set_Reset.H prob_Set_Reset.c (endQ Tryd.prog Tryd.f56.results.toList Q) (argsE [x0]) w = prob_Set_Reset.F x0 w Q := by kernel_rfl
theorem prob_Set_Reset.calls [Pan] {x0 : Value} {w : World} {Q : Value → World → Prop} (h : prob_Set_Reset.F x0 w Q) : Calls Tryd.prog 56 #[x0] w (retP Q) :=
  calls_of_cw (H := prob_Set_Reset.H) (c := prob_Set_Reset.c) (args := [x0]) mixed Tryd.func56 (by kernel_rfl) (by kernel_rfl) (Nat.le_of_ble_eq_true (by kernel_rfl)) ((prob_Set_Reset.eq x0 w Q).mpr h)

/-! prob_Set_At: (*pith/prob.Set).At; temporaries: 0:s 1:i 2:s 3:i 6:e -/
def prob_Set_At.H : Hints := { cut := fun  | _ => none, loop := fun  | _ => ([], 0), order := fun  | _ => [] }
def prob_Set_At.F [Pan] (x0 : Value) (x1 : Value) (w : World) (Q : Value → World → Prop) : Prop :=
 pN Tryd.prog (oCall 93 [x0, x1]) w fun x9 w1 =>
 pN Tryd.prog (oBin .neq 28 (.tmp 10) (.const (.int .i64 0)) x9 (.int .i64 0)) w1 fun x11 w2 =>
 pIf x11
 (Q (.tuple #[(.int .i64 0), x9]) w2)
 (pN Tryd.prog (oNil x0) w2 fun x14 w3 =>
 pN Tryd.prog (oFld 112 x14 0) w3 fun x15 w4 =>
 pN Tryd.prog (oLoad 102 x15) w4 fun x16 w5 =>
 pN Tryd.prog (oIdx 102 x16 x1) w5 fun x18 w6 =>
 pN Tryd.prog (oLoad 3 x18) w6 fun x19 w7 =>
 Q (.tuple #[x19, (.int .i64 0)]) w7)
noncomputable def prob_Set_At.c : Code := match Tryd.f84.body with | some c => c | none => .skip
theorem prob_Set_At.eq [Pan] (x0 : Value) (x1 : Value) (w : World) (Q : Value → World → Prop) : cw Tryd.prog prob_Set_At.H prob_Set_At.c (endQ Tryd.prog Tryd.f84.results.toList Q) (argsE [x0, x1]) w = prob_Set_At.F x0 x1 w Q := by kernel_rfl
theorem prob_Set_At.calls [Pan] {x0 : Value} {x1 : Value} {w : World} {Q : Value → World → Prop} (h : prob_Set_At.F x0 x1 w Q) : Calls Tryd.prog 84 #[x0, x1] w (retP Q) :=
  calls_of_cw (H := prob_Set_At.H) (c := prob_Set_At.c) (args := [x0, x1]) mixed Tryd.func84 (by kernel_rfl) (by kernel_rfl) (Nat.le_of_ble_eq_true (by kernel_rfl)) ((prob_Set_At.eq x0 x1 w Q).mpr h)

/-! prob_Bound: pith/prob.Bound; temporaries: 0:rng 1:p 2:rng 3:p -/
def prob_Bound.H : Hints := { cut := fun  | _ => none, loop := fun  | _ => ([], 0), order := fun  | _ => [] }
def prob_Bound.F [Pan] (x0 : Value) (x1 : Value) (w : World) (Q : Value → World → Prop) : Prop :=
 pN Tryd.prog (oBin .shr 78 (.tmp 5) (.const (.int .u64 11)) x0 (.int .u64 11)) w fun x6 w1 =>
 pN Tryd.prog (oCall 94 [x1]) w1 fun x8 w2 =>
 pN Tryd.prog (oConv 3 78 x8) w2 fun x9 w3 =>
 pN Tryd.prog (oBin .mul 78 (.tmp 6) (.tmp 9) x6 x9) w3 fun x10 w4 =>
 Q x10 w4
noncomputable def prob_Bound.c : Code := match Tryd.f85.body with | some c => c | none => .skip
theorem prob_Bound.eq [Pan] (x0 : Value) (x1 : Value) (w : World) (Q : Value → World → Prop) : cw Tryd.prog prob_Bound.H prob_Bound.c (endQ Tryd.prog Tryd.f85.results.toList Q) (argsE [x0, x1]) w = prob_Bound.F x0 x1 w Q := by kernel_rfl
theorem prob_Bound.calls [Pan] {x0 : Value} {x1 : Value} {w : World} {Q : Value → World → Prop} (h : prob_Bound.F x0 x1 w Q) : Calls Tryd.prog 85 #[x0, x1] w (retP Q) :=
  calls_of_cw (H := prob_Bound.H) (c := prob_Bound.c) (args := [x0, x1]) mixed Tryd.func85 (by kernel_rfl) (by kernel_rfl) (Nat.le_of_ble_eq_true (by kernel_rfl)) ((prob_Bound.eq x0 x1 w Q).mpr h)

/-! prob_Set_Turn: (*pith/prob.Set).Turn; temporaries: 0:s 1:i 2:bit 3:s 4:i 5:bit 7:e -/
def prob_Set_Turn.H : Hints := { cut := fun | 4 => some ([], 268433408) | _ => none, loop := fun  | _ => ([], 0), order := fun | 3 => [(0, 0), (1, 1), (2, 3), (3, 7), (4, 15), (5, 31), (6, 63), (7, 127), (8, 255), (9, 511), (10, 1023), (11, 2047), (12, 4095), (13, 8191), (14, 16383), (15, 32767)] | _ => [] }
def prob_Set_Turn.F [Pan] (x0 : Value) (x1 : Value) (x2 : Value) (w : World) (Q : Value → World → Prop) : Prop :=
 pN Tryd.prog (oCall 93 [x0, x1]) w fun x10 w1 =>
 ∃ I4 : World → Prop,
 (pN Tryd.prog (oBin .eql 28 (.tmp 11) (.const (.int .i64 0)) x10 (.int .i64 0)) w1 fun x12 w2 =>
 pIf x12
 (pDr w2 fun w3 =>
 pA Tryd.prog (oNil x0) fun x14 =>
 pA Tryd.prog (oFld 112 x14 0) fun x15 =>
 pL Tryd.prog (oLoad 102 x15) w3 fun x16 =>
 pA Tryd.prog (oNil x0) fun x19 =>
 pA Tryd.prog (oFld 112 x19 0) fun x20 =>
 pL Tryd.prog (oLoad 102 x20) w3 fun x21 =>
 pA Tryd.prog (oIdx 102 x21 x1) fun x23 =>
 pL Tryd.prog (oLoad 3 x23) w3 fun x24 =>
 pN Tryd.prog (oCall 95 [x24, x2]) w3 fun x26 w4 =>
 ((Sem.run Tryd.prog (oLoad 102 x15) w4 = .ok (.value x16) w4) ∧ True) ∧ (pA Tryd.prog (oIdx 102 x16 x1) fun x27 =>
 pN Tryd.prog (oStore 3 x27 x26) w4 fun _ w5 =>
 (True) ∧ (I4 w5)))
 (I4 w2)) ∧
 ∀ (_j4 : Env) (w6 : World), I4 w6 →
 Q x10 w6
noncomputable def prob_Set_Turn.c : Code := match Tryd.f87.body with | some c => c | none => .skip
theorem prob_Set_Turn.eq [Pan] (x0 : Value) (x1 : Value) (x2 : Value) (w : World) (Q : Value → World → Prop) : cw Tryd.prog prob_Set_Turn.H prob_Set_Turn.c (endQ Tryd.prog Tryd.f87.results.toList Q) (argsE [x0, x1, x2]) w = prob_Set_Turn.F x0 x1 x2 w Q := by kernel_rfl
theorem prob_Set_Turn.calls [Pan] {x0 : Value} {x1 : Value} {x2 : Value} {w : World} {Q : Value → World → Prop} (h : prob_Set_Turn.F x0 x1 x2 w Q) : Calls Tryd.prog 87 #[x0, x1, x2] w (retP Q) :=
  calls_of_cw (H := prob_Set_Turn.H) (c := prob_Set_Turn.c) (args := [x0, x1, x2]) mixed Tryd.func87 (by kernel_rfl) (by kernel_rfl) (Nat.le_of_ble_eq_true (by kernel_rfl)) ((prob_Set_Turn.eq x0 x1 x2 w Q).mpr h)

/-! prob_Set_has: (*pith/prob.Set).has; temporaries: 0:s 1:i 2:s 3:i -/
def prob_Set_has.H : Hints := { cut := fun  | _ => none, loop := fun  | _ => ([], 0), order := fun  | _ => [] }
def prob_Set_has.F [Pan] (x0 : Value) (x1 : Value) (w : World) (Q : Value → World → Prop) : Prop :=
 pN Tryd.prog (oBin .lss 3 (.tmp 5) (.const (.int .i64 0)) x1 (.int .i64 0)) w fun x6 w1 =>
 pGd (gB x6 false) (pN Tryd.prog (oMv x1) w1) w1 fun x8 w2 =>
 pGd (gB x6 false) (pN Tryd.prog (oMv x0) w2) w2 fun x9 w3 =>
 pGd (gB x6 false) (pN Tryd.prog (oNil x9) w3) w3 fun x10 w4 =>
 pGd (gB x6 false) (pN Tryd.prog (oFld 112 x10 0) w4) w4 fun x11 w5 =>
 pGd (gB x6 false) (pN Tryd.prog (oLoad 102 x11) w5) w5 fun x12 w6 =>
 pGd (gB x6 false) (pN Tryd.prog (oBi .len #[102] 3 [false] [x12]) w6) w6 fun x13 w7 =>
 pGd (gB x6 false) (pN Tryd.prog (oBin .geq 3 (.tmp 8) (.tmp 13) x8 x13) w7) w7 fun x14 w8 =>
 pN Tryd.prog (oPick x6 (.bool true) x14) w8 fun x15 w9 =>
 pIf x15
 (Q (.int .i64 7) w9)
 (Q (.int .i64 0) w9)
noncomputable def prob_Set_has.c : Code := match Tryd.f93.body with | some c => c | none => .skip
theorem prob_Set_has.eq [Pan] (x0 : Value) (x1 : Value) (w : World) (Q : Value → World → Prop) : cw Tryd.prog prob_Set_has.H prob_Set_has.c (endQ Tryd.prog Tryd.f93.results.toList Q) (argsE [x0, x1]) w = prob_Set_has.F x0 x1 w Q := by kernel_rfl
theorem prob_Set_has.calls [Pan] {x0 : Value} {x1 : Value} {w : World} {Q : Value → World → Prop} (h : prob_Set_has.F x0 x1 w Q) : Calls Tryd.prog 93 #[x0, x1] w (retP Q) :=
  calls_of_cw (H := prob_Set_has.H) (c := prob_Set_has.c) (args := [x0, x1]) mixed Tryd.func93 (by kernel_rfl) (by kernel_rfl) (Nat.le_of_ble_eq_true (by kernel_rfl)) ((prob_Set_has.eq x0 x1 w Q).mpr h)

/-! prob_taken: pith/prob.taken; temporaries: 0:p 1:p -/
def prob_taken.H : Hints := { cut := fun  | _ => none, loop := fun  | _ => ([], 0), order := fun  | _ => [] }
def prob_taken.F [Pan] (x0 : Value) (w : World) (Q : Value → World → Prop) : Prop :=
 pN Tryd.prog (oBi .min #[3, 3] 3 [false, true] [x0, (.int .i64 2047)]) w fun x4 w1 =>
 pN Tryd.prog (oBi .max #[3, 3] 3 [true, false] [(.int .i64 0), x4]) w1 fun x5 w2 =>
 Q x5 w2
noncomputable def prob_taken.c : Code := match Tryd.f94.body with | some c => c | none => .skip
theorem prob_taken.eq [Pan] (x0 : Value) (w : World) (Q : Value → World → Prop) : cw Tryd.prog prob_taken.H prob_taken.c (endQ Tryd.prog Tryd.f94.results.toList Q) (argsE [x0]) w = prob_taken.F x0 w Q := by kernel_rfl
theorem prob_taken.calls [Pan] {x0 : Value} {w : World} {Q : Value → World → Prop} (h : prob_taken.F x0 w Q) : Calls Tryd.prog 94 #[x0] w (retP Q) :=
  calls_of_cw (H := prob_taken.H) (c := prob_taken.c) (args := [x0]) mixed Tryd.func94 (by kernel_rfl) (by kernel_rfl) (Nat.le_of_ble_eq_true (by kernel_rfl)) ((prob_taken.eq x0 w Q).mpr h)

/-! prob_Next: pith/prob.Next; temporaries: 0:p 1:bit 2:p 3:bit -/
def prob_Next.H : Hints := { cut := fun  | _ => none, loop := fun  | _ => ([], 0), order := fun  | _ => [] }
def prob_Next.F [Pan] (x0 : Value) (x1 : Value) (w : World) (Q : Value → World → Prop) : Prop :=
 pN Tryd.prog (oCall 94 [x0]) w fun x6 w1 =>
 pN Tryd.prog (oBin .eql 3 (.tmp 7) (.const (.int .i64 0)) x1 (.int .i64 0)) w1 fun x8 w2 =>
 pIf x8
 (pN Tryd.prog (oBin .sub 3 (.const (.int .i64 2048)) (.tmp 10) (.int .i64 2048) x6) w2 fun x11 w3 =>
 pN Tryd.prog (oBin .shr 3 (.tmp 11) (.const (.int .u64 5)) x11 (.int .u64 5)) w3 fun x12 w4 =>
 pN Tryd.prog (oBin .add 3 (.tmp 9) (.tmp 12) x6 x12) w4 fun x13 w5 =>
 Q x13 w5)
 (pN Tryd.prog (oBin .shr 3 (.tmp 15) (.const (.int .u64 5)) x6 (.int .u64 5)) w2 fun x16 w6 =>
 pN Tryd.prog (oBin .sub 3 (.tmp 14) (.tmp 16) x6 x16) w6 fun x17 w7 =>
 Q x17 w7)
noncomputable def prob_Next.c : Code := match Tryd.f95.body with | some c => c | none => .skip
theorem prob_Next.eq [Pan] (x0 : Value) (x1 : Value) (w : World) (Q : Value → World → Prop) : cw Tryd.prog prob_Next.H prob_Next.c (endQ Tryd.prog Tryd.f95.results.toList Q) (argsE [x0, x1]) w = prob_Next.F x0 x1 w Q := by kernel_rfl
theorem prob_Next.calls [Pan] {x0 : Value} {x1 : Value} {w : World} {Q : Value → World → Prop} (h : prob_Next.F x0 x1 w Q) : Calls Tryd.prog 95 #[x0, x1] w (retP Q) :=
  calls_of_cw (H := prob_Next.H) (c := prob_Next.c) (args := [x0, x1]) mixed Tryd.func95 (by kernel_rfl) (by kernel_rfl) (Nat.le_of_ble_eq_true (by kernel_rfl)) ((prob_Next.eq x0 x1 w Q).mpr h)

/-! prob_Set_Len: (*pith/prob.Set).Len; temporaries: 0:s 1:s -/
def prob_Set_Len.H : Hints := { cut := fun  | _ => none, loop := fun  | _ => ([], 0), order := fun  | _ => [] }
def prob_Set_Len.F [Pan] (x0 : Value) (w : World) (Q : Value → World → Prop) : Prop :=
 pN Tryd.prog (oNil x0) w fun x4 w1 =>
 pN Tryd.prog (oFld 112 x4 0) w1 fun x5 w2 =>
 pN Tryd.prog (oLoad 102 x5) w2 fun x6 w3 =>
 pN Tryd.prog (oBi .len #[102] 3 [false] [x6]) w3 fun x7 w4 =>
 Q x7 w4
noncomputable def prob_Set_Len.c : Code := match Tryd.f96.body with | some c => c | none => .skip
theorem prob_Set_Len.eq [Pan] (x0 : Value) (w : World) (Q : Value → World → Prop) : cw Tryd.prog prob_Set_Len.H prob_Set_Len.c (endQ Tryd.prog Tryd.f96.results.toList Q) (argsE [x0]) w = prob_Set_Len.F x0 w Q := by kernel_rfl
theorem prob_Set_Len.calls [Pan] {x0 : Value} {w : World} {Q : Value → World → Prop} (h : prob_Set_Len.F x0 w Q) : Calls Tryd.prog 96 #[x0] w (retP Q) :=
  calls_of_cw (H := prob_Set_Len.H) (c := prob_Set_Len.c) (args := [x0]) mixed Tryd.func96 (by kernel_rfl) (by kernel_rfl) (Nat.le_of_ble_eq_true (by kernel_rfl)) ((prob_Set_Len.eq x0 w Q).mpr h)

/-! prob_Cost: pith/prob.Cost; temporaries: 0:p 1:bit 2:p 3:bit -/
def prob_Cost.H : Hints := { cut := fun | 4 => some ([0], 1921) | _ => none, loop := fun  | _ => ([], 0), order := fun  | _ => [] }
def prob_Cost.F [Pan] (x0 : Value) (x1 : Value) (w : World) (Q : Value → World → Prop) : Prop :=
 pN Tryd.prog (oCall 94 [x0]) w fun x6 w1 =>
 ∃ I4 : Value → World → Prop,
 (pN Tryd.prog (oBin .neq 3 (.tmp 7) (.const (.int .i64 0)) x1 (.int .i64 0)) w1 fun x8 w2 =>
 pIf x8
 (pN Tryd.prog (oBin .sub 3 (.const (.int .i64 2047)) (.tmp 9) (.int .i64 2047) x6) w2 fun x10 w3 =>
 I4 x10 w3)
 (I4 x6 w2)) ∧
 ∀ (_j4 : Env) (p0c4 : Value) (w4 : World), I4 p0c4 w4 →
 pN Tryd.prog (oBin .quo 3 (.tmp 11) (.const (.int .i64 16)) p0c4 (.int .i64 16)) w4 fun x12 w5 =>
 pN Tryd.prog (oCall 105 [x12]) w5 fun x13 w6 =>
 Q x13 w6
noncomputable def prob_Cost.c : Code := match Tryd.f102.body with | some c => c | none => .skip
theorem prob_Cost.eq [Pan] (x0 : Value) (x1 : Value) (w : World) (Q : Value → World → Prop) : cw Tryd.prog prob_Cost.H prob_Cost.c (endQ Tryd.prog Tryd.f102.results.toList Q) (argsE [x0, x1]) w = prob_Cost.F x0 x1 w Q := by kernel_rfl
theorem prob_Cost.calls [Pan] {x0 : Value} {x1 : Value} {w : World} {Q : Value → World → Prop} (h : prob_Cost.F x0 x1 w Q) : Calls Tryd.prog 102 #[x0, x1] w (retP Q) :=
  calls_of_cw (H := prob_Cost.H) (c := prob_Cost.c) (args := [x0, x1]) mixed Tryd.func102 (by kernel_rfl) (by kernel_rfl) (Nat.le_of_ble_eq_true (by kernel_rfl)) ((prob_Cost.eq x0 x1 w Q).mpr h)

/-! prob_costing: pith/prob.costing; temporaries: 0:i 1:i 3:w 4:c -/
def prob_costing.H : Hints := { cut := fun  | _ => none, loop := fun | 3 => ([3, 4, 8], 4194072) | 6 => ([3, 4], 2064408) | _ => ([], 0), order := fun  | _ => [] }
def prob_costing.F [Pan] (x0 : Value) (w : World) (Q : Value → World → Prop) : Prop :=
 pN Tryd.prog (oBin .mul 3 (.const (.int .i64 16)) (.tmp 5) (.int .i64 16) x0) w fun x6 w1 =>
 pN Tryd.prog (oBin .add 3 (.tmp 6) (.const (.int .i64 8)) x6 (.int .i64 8)) w1 fun x7 w2 =>
 ∃ (L3 : Value → Value → Value → World → Prop) (m3 : Value → Value → Value → World → Nat),
 L3 x7 (.int .i64 0) (.int .i64 0) w2 ∧
 ∀ (_k3 : Env) (w3l3 : Value) (c4l3 : Value) (v8l3 : Value) (w3 : World), L3 w3l3 c4l3 v8l3 w3 →
 pN Tryd.prog (oBin .lss 3 (.tmp 8) (.const (.int .i64 4)) v8l3 (.int .i64 4)) w3 fun x9 w4 =>
 pIf x9
 (pN Tryd.prog (oBin .mul 3 (.tmp 10) (.tmp 11) w3l3 w3l3) w4 fun x12 w5 =>
 pN Tryd.prog (oBin .mul 3 (.tmp 13) (.const (.int .i64 2)) c4l3 (.int .i64 2)) w5 fun x14 w6 =>
 ∃ (L6 : Value → Value → World → Prop) (m6 : Value → Value → World → Nat),
 L6 x12 x14 w6 ∧
 ∀ (_k6 : Env) (w3l6 : Value) (c4l6 : Value) (w7 : World), L6 w3l6 c4l6 w7 →
 pN Tryd.prog (oBin .geq 3 (.tmp 15) (.const (.int .i64 65536)) w3l6 (.int .i64 65536)) w7 fun x16 w8 =>
 pIf x16
 (pN Tryd.prog (oBin .quo 3 (.tmp 17) (.const (.int .i64 2)) w3l6 (.int .i64 2)) w8 fun x18 w9 =>
 pN Tryd.prog (oBin .add 3 (.tmp 19) (.const (.int .i64 1)) c4l6 (.int .i64 1)) w9 fun x20 w10 =>
 (L6 x18 x20 w10 ∧ m6 x18 x20 w10 < m6 w3l6 c4l6 w7))
 (pN Tryd.prog (oBin .add 3 (.tmp 8) (.const (.int .i64 1)) v8l3 (.int .i64 1)) w8 fun x21 w11 =>
 (L3 w3l6 c4l6 x21 w11 ∧ m3 w3l6 c4l6 x21 w11 < m3 w3l3 c4l3 v8l3 w3)))
 (pN Tryd.prog (oBin .sub 3 (.const (.int .i64 161)) (.tmp 22) (.int .i64 161) c4l3) w4 fun x23 w12 =>
 Q x23 w12)
noncomputable def prob_costing.c : Code := match Tryd.f105.body with | some c => c | none => .skip
theorem prob_costing.eq [Pan] (x0 : Value) (w : World) (Q : Value → World → Prop) : cw Tryd.prog prob_costing.H prob_costing.c (endQ Tryd.prog Tryd.f105.results.toList Q) (argsE [x0]) w = prob_costing.F x0 w Q := by kernel_rfl
theorem prob_costing.calls [Pan] {x0 : Value} {w : World} {Q : Value → World → Prop} (h : prob_costing.F x0 w Q) : Calls Tryd.prog 105 #[x0] w (retP Q) :=
  calls_of_cw (H := prob_costing.H) (c := prob_costing.c) (args := [x0]) mixed Tryd.func105 (by kernel_rfl) (by kernel_rfl) (Nat.le_of_ble_eq_true (by kernel_rfl)) ((prob_costing.eq x0 w Q).mpr h)

end Go.Proofs.YtbgnnjfpiblkmaaDoor
