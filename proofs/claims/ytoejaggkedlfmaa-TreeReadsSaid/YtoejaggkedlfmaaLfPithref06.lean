/-
  Printed by a program of mine (lift.py): each function of the seat as a plain proposition over values and worlds; that the program meets it.
-/
import Derived.Test.YtoejaggkedlfmaaRows
import Derived.Test.YtoejaggkedlfmaaFacts
namespace Go.Proofs.Ytoejaggkedlfmaa
open Go
set_option linter.unusedSimpArgs false
set_option linter.unnecessarySimpa false
set_option linter.unusedSectionVars false
set_option linter.unusedVariables false
set_option maxRecDepth 100000

/-! pithref06_New: pith/pithref06.New; temporaries: 0:n 1:n 4:s -/
def pithref06_New.H : Hints := { cut := fun  | _ => none, loop := fun  | _ => ([], 0), order := fun  | _ => [] }
def pithref06_New.F [Pan] (x0 : Value) (w : World) (Q : Value → World → Prop) : Prop :=
 pN Try.prog (oBin .lss 3 (.tmp 5) (.const (.int .i64 0)) x0 (.int .i64 0)) w fun x6 w1 =>
 pGd (gB x6 false) (pN Try.prog (oMv x0) w1) w1 fun x8 w2 =>
 pGd (gB x6 false) (pN Try.prog (oBin .gtr 3 (.tmp 8) (.const (.int .i64 1048576)) x8 (.int .i64 1048576)) w2) w2 fun x9 w3 =>
 pN Try.prog (oPick x6 (.bool true) x9) w3 fun x10 w4 =>
 pIf x10
 (Q (.tuple #[(.pointer none), (.int .i64 7)]) w4)
 (pN Try.prog (oMk 23 x0 x0) w4 fun x13 w5 =>
 pN Try.prog (oBuild 145 [(0, x0), (1, x13)]) w5 fun x14 w6 =>
 pN Try.prog (oBox 145 x14) w6 fun x15 w7 =>
 pN Try.prog (oCall 88 [x15]) w7 fun _ w8 =>
 Q (.tuple #[x15, (.int .i64 0)]) w8)
noncomputable def pithref06_New.c : Code := match Try.f46.body with | some c => c | none => .skip
theorem pithref06_New.eq [Pan] (x0 : Value) (w : World) (Q : Value → World → Prop) : cw Try.prog pithref06_New.H pithref06_New.c (endQ Try.prog Try.f46.results.toList Q) (argsE [x0]) w = pithref06_New.F x0 w Q := by kernel_rfl
theorem pithref06_New.calls [Pan] {x0 : Value} {w : World} {Q : Value → World → Prop} (h : pithref06_New.F x0 w Q) : Calls Try.prog 46 #[x0] w (retP Q) :=
  calls_of_cw (H := pithref06_New.H) (c := pithref06_New.c) (args := [x0]) mixed Try.func46 (by kernel_rfl) (by kernel_rfl) (Nat.le_of_ble_eq_true (by kernel_rfl)) ((pithref06_New.eq x0 w Q).mpr h)

/-! pithref06_Set_At: (*pith/pithref06.Set).At; temporaries: 0:s 1:i 2:s 3:i -/
def pithref06_Set_At.H : Hints := { cut := fun  | _ => none, loop := fun  | _ => ([], 0), order := fun  | _ => [] }
def pithref06_Set_At.F [Pan] (x0 : Value) (x1 : Value) (w : World) (Q : Value → World → Prop) : Prop :=
 pN Try.prog (oBin .lss 3 (.tmp 6) (.const (.int .i64 0)) x1 (.int .i64 0)) w fun x7 w1 =>
 pGd (gB x7 false) (pN Try.prog (oMv x1) w1) w1 fun x9 w2 =>
 pGd (gB x7 false) (pN Try.prog (oMv x0) w2) w2 fun x10 w3 =>
 pGd (gB x7 false) (pN Try.prog (oNil x10) w3) w3 fun x11 w4 =>
 pGd (gB x7 false) (pN Try.prog (oFld 145 x11 1) w4) w4 fun x12 w5 =>
 pGd (gB x7 false) (pN Try.prog (oLoad 23 x12) w5) w5 fun x13 w6 =>
 pGd (gB x7 false) (pN Try.prog (oBi .len #[23] 3 [false] [x13]) w6) w6 fun x14 w7 =>
 pGd (gB x7 false) (pN Try.prog (oBin .geq 3 (.tmp 9) (.tmp 14) x9 x14) w7) w7 fun x15 w8 =>
 pN Try.prog (oPick x7 (.bool true) x15) w8 fun x16 w9 =>
 pIf x16
 (Q (.tuple #[(.int .i64 0), (.int .i64 7)]) w9)
 (pN Try.prog (oNil x0) w9 fun x18 w10 =>
 pN Try.prog (oFld 145 x18 1) w10 fun x19 w11 =>
 pN Try.prog (oLoad 23 x19) w11 fun x20 w12 =>
 pN Try.prog (oIdx 23 x20 x1) w12 fun x22 w13 =>
 pN Try.prog (oLoad 3 x22) w13 fun x23 w14 =>
 Q (.tuple #[x23, (.int .i64 0)]) w14)
noncomputable def pithref06_Set_At.c : Code := match Try.f79.body with | some c => c | none => .skip
theorem pithref06_Set_At.eq [Pan] (x0 : Value) (x1 : Value) (w : World) (Q : Value → World → Prop) : cw Try.prog pithref06_Set_At.H pithref06_Set_At.c (endQ Try.prog Try.f79.results.toList Q) (argsE [x0, x1]) w = pithref06_Set_At.F x0 x1 w Q := by kernel_rfl
theorem pithref06_Set_At.calls [Pan] {x0 : Value} {x1 : Value} {w : World} {Q : Value → World → Prop} (h : pithref06_Set_At.F x0 x1 w Q) : Calls Try.prog 79 #[x0, x1] w (retP Q) :=
  calls_of_cw (H := pithref06_Set_At.H) (c := pithref06_Set_At.c) (args := [x0, x1]) mixed Try.func79 (by kernel_rfl) (by kernel_rfl) (Nat.le_of_ble_eq_true (by kernel_rfl)) ((pithref06_Set_At.eq x0 x1 w Q).mpr h)

/-! pithref06_Bound: pith/pithref06.Bound; temporaries: 0:rng 1:p 2:rng 3:p -/
def pithref06_Bound.H : Hints := { cut := fun  | _ => none, loop := fun  | _ => ([], 0), order := fun  | _ => [] }
def pithref06_Bound.F [Pan] (x0 : Value) (x1 : Value) (w : World) (Q : Value → World → Prop) : Prop :=
 pN Try.prog (oBin .quo 26 (.tmp 5) (.const (.int .u32 2048)) x0 (.int .u32 2048)) w fun x6 w1 =>
 pN Try.prog (oCall 105 [x1]) w1 fun x8 w2 =>
 pN Try.prog (oConv 3 26 x8) w2 fun x9 w3 =>
 pN Try.prog (oBin .mul 26 (.tmp 6) (.tmp 9) x6 x9) w3 fun x10 w4 =>
 Q x10 w4
noncomputable def pithref06_Bound.c : Code := match Try.f81.body with | some c => c | none => .skip
theorem pithref06_Bound.eq [Pan] (x0 : Value) (x1 : Value) (w : World) (Q : Value → World → Prop) : cw Try.prog pithref06_Bound.H pithref06_Bound.c (endQ Try.prog Try.f81.results.toList Q) (argsE [x0, x1]) w = pithref06_Bound.F x0 x1 w Q := by kernel_rfl
theorem pithref06_Bound.calls [Pan] {x0 : Value} {x1 : Value} {w : World} {Q : Value → World → Prop} (h : pithref06_Bound.F x0 x1 w Q) : Calls Try.prog 81 #[x0, x1] w (retP Q) :=
  calls_of_cw (H := pithref06_Bound.H) (c := pithref06_Bound.c) (args := [x0, x1]) mixed Try.func81 (by kernel_rfl) (by kernel_rfl) (Nat.le_of_ble_eq_true (by kernel_rfl)) ((pithref06_Bound.eq x0 x1 w Q).mpr h)

/-! pithref06_Set_Turn: (*pith/pithref06.Set).Turn; temporaries: 0:s 1:i 2:bit 3:s 4:i 5:bit -/
def pithref06_Set_Turn.H : Hints := { cut := fun  | _ => none, loop := fun  | _ => ([], 0), order := fun | 3 => [(0, 0), (1, 1), (2, 3), (3, 7), (4, 15), (5, 31), (6, 63), (7, 127), (8, 255), (9, 511), (10, 1023), (11, 2047), (12, 4095), (13, 8191), (14, 16383), (15, 32767)] | _ => [] }
def pithref06_Set_Turn.F [Pan] (x0 : Value) (x1 : Value) (x2 : Value) (w : World) (Q : Value → World → Prop) : Prop :=
 pN Try.prog (oBin .lss 3 (.tmp 7) (.const (.int .i64 0)) x1 (.int .i64 0)) w fun x8 w1 =>
 pGd (gB x8 false) (pN Try.prog (oMv x1) w1) w1 fun x10 w2 =>
 pGd (gB x8 false) (pN Try.prog (oMv x0) w2) w2 fun x11 w3 =>
 pGd (gB x8 false) (pN Try.prog (oNil x11) w3) w3 fun x12 w4 =>
 pGd (gB x8 false) (pN Try.prog (oFld 145 x12 1) w4) w4 fun x13 w5 =>
 pGd (gB x8 false) (pN Try.prog (oLoad 23 x13) w5) w5 fun x14 w6 =>
 pGd (gB x8 false) (pN Try.prog (oBi .len #[23] 3 [false] [x14]) w6) w6 fun x15 w7 =>
 pGd (gB x8 false) (pN Try.prog (oBin .geq 3 (.tmp 10) (.tmp 15) x10 x15) w7) w7 fun x16 w8 =>
 pN Try.prog (oPick x8 (.bool true) x16) w8 fun x17 w9 =>
 pIf x17
 (Q (.int .i64 7) w9)
 (pDr w9 fun w10 =>
 pA Try.prog (oNil x0) fun x19 =>
 pA Try.prog (oFld 145 x19 1) fun x20 =>
 pL Try.prog (oLoad 23 x20) w10 fun x21 =>
 pA Try.prog (oNil x0) fun x24 =>
 pA Try.prog (oFld 145 x24 1) fun x25 =>
 pL Try.prog (oLoad 23 x25) w10 fun x26 =>
 pA Try.prog (oIdx 23 x26 x1) fun x28 =>
 pL Try.prog (oLoad 3 x28) w10 fun x29 =>
 pN Try.prog (oCall 106 [x29, x2]) w10 fun x31 w11 =>
 ((Sem.run Try.prog (oLoad 23 x20) w11 = .ok (.value x21) w11) ∧ True) ∧ (pA Try.prog (oIdx 23 x21 x1) fun x32 =>
 pN Try.prog (oStore 3 x32 x31) w11 fun _ w12 =>
 (True) ∧ (Q (.int .i64 0) w12)))
noncomputable def pithref06_Set_Turn.c : Code := match Try.f82.body with | some c => c | none => .skip
theorem pithref06_Set_Turn.eq [Pan] (x0 : Value) (x1 : Value) (x2 : Value) (w : World) (Q : Value → World → Prop) : cw Try.prog pithref06_Set_Turn.H pithref06_Set_Turn.c (endQ Try.prog Try.f82.results.toList Q) (argsE [x0, x1, x2]) w = pithref06_Set_Turn.F x0 x1 x2 w Q := by kernel_rfl
theorem pithref06_Set_Turn.calls [Pan] {x0 : Value} {x1 : Value} {x2 : Value} {w : World} {Q : Value → World → Prop} (h : pithref06_Set_Turn.F x0 x1 x2 w Q) : Calls Try.prog 82 #[x0, x1, x2] w (retP Q) :=
  calls_of_cw (H := pithref06_Set_Turn.H) (c := pithref06_Set_Turn.c) (args := [x0, x1, x2]) mixed Try.func82 (by kernel_rfl) (by kernel_rfl) (Nat.le_of_ble_eq_true (by kernel_rfl)) ((pithref06_Set_Turn.eq x0 x1 x2 w Q).mpr h)

/-! pithref06_Set_Reset: (*pith/pithref06.Set).Reset; temporaries: 0:s 1:s 2:i -/
def pithref06_Set_Reset.H : Hints := { cut := fun  | _ => none, loop := fun | 1 => ([2], 262140) | _ => ([], 0), order := fun  | _ => [] }
def pithref06_Set_Reset.F [Pan] (x0 : Value) (w : World) (Q : Value → World → Prop) : Prop :=
 ∃ (L1 : Value → World → Prop) (m1 : Value → World → Nat),
 L1 (.int .i64 0) w ∧
 ∀ (_k1 : Env) (i2l1 : Value) (w1 : World), L1 i2l1 w1 →
 pN Try.prog (oNil x0) w1 fun x5 w2 =>
 pN Try.prog (oFld 145 x5 1) w2 fun x6 w3 =>
 pN Try.prog (oLoad 23 x6) w3 fun x7 w4 =>
 pN Try.prog (oBi .len #[23] 3 [false] [x7]) w4 fun x8 w5 =>
 pN Try.prog (oBin .lss 3 (.tmp 3) (.tmp 8) i2l1 x8) w5 fun x9 w6 =>
 pIf x9
 (pN Try.prog (oNil x0) w6 fun x13 w7 =>
 pN Try.prog (oFld 145 x13 1) w7 fun x14 w8 =>
 pN Try.prog (oLoad 23 x14) w8 fun x15 w9 =>
 pN Try.prog (oIdx 23 x15 i2l1) w9 fun x17 w10 =>
 pN Try.prog (oStore 3 x17 (.int .i64 1024)) w10 fun _ w11 =>
 pN Try.prog (oBin .add 3 (.tmp 10) (.const (.int .i64 1)) i2l1 (.int .i64 1)) w11 fun x11 w12 =>
 (L1 x11 w12 ∧ m1 x11 w12 < m1 i2l1 w1))
 (Q (.tuple #[]) w6)
noncomputable def pithref06_Set_Reset.c : Code := match Try.f88.body with | some c => c | none => .skip
theorem pithref06_Set_Reset.eq [Pan] (x0 : Value) (w : World) (Q : Value → World → Prop) : cw Try.prog pithref06_Set_Reset.H pithref06_Set_Reset.c (endQ Try.prog Try.f88.results.toList Q) (argsE [x0]) w = pithref06_Set_Reset.F x0 w Q := by kernel_rfl
theorem pithref06_Set_Reset.calls [Pan] {x0 : Value} {w : World} {Q : Value → World → Prop} (h : pithref06_Set_Reset.F x0 w Q) : Calls Try.prog 88 #[x0] w (retP Q) :=
  calls_of_cw (H := pithref06_Set_Reset.H) (c := pithref06_Set_Reset.c) (args := [x0]) mixed Try.func88 (by kernel_rfl) (by kernel_rfl) (Nat.le_of_ble_eq_true (by kernel_rfl)) ((pithref06_Set_Reset.eq x0 w Q).mpr h)

/-! pithref06_bound: pith/pithref06.bound; temporaries: 0:p 1:p -/
def pithref06_bound.H : Hints := { cut := fun  | _ => none, loop := fun  | _ => ([], 0), order := fun  | _ => [] }
def pithref06_bound.F [Pan] (x0 : Value) (w : World) (Q : Value → World → Prop) : Prop :=
 pN Try.prog (oBin .lss 3 (.tmp 3) (.const (.int .i64 0)) x0 (.int .i64 0)) w fun x4 w1 =>
 pIf x4
 (Q (.int .i64 0) w1)
 (pN Try.prog (oBin .gtr 3 (.tmp 5) (.const (.int .i64 2047)) x0 (.int .i64 2047)) w1 fun x6 w2 =>
 pIf x6
 (Q (.int .i64 2047) w2)
 (Q x0 w2))
noncomputable def pithref06_bound.c : Code := match Try.f105.body with | some c => c | none => .skip
theorem pithref06_bound.eq [Pan] (x0 : Value) (w : World) (Q : Value → World → Prop) : cw Try.prog pithref06_bound.H pithref06_bound.c (endQ Try.prog Try.f105.results.toList Q) (argsE [x0]) w = pithref06_bound.F x0 w Q := by kernel_rfl
theorem pithref06_bound.calls [Pan] {x0 : Value} {w : World} {Q : Value → World → Prop} (h : pithref06_bound.F x0 w Q) : Calls Try.prog 105 #[x0] w (retP Q) :=
  calls_of_cw (H := pithref06_bound.H) (c := pithref06_bound.c) (args := [x0]) mixed Try.func105 (by kernel_rfl) (by kernel_rfl) (Nat.le_of_ble_eq_true (by kernel_rfl)) ((pithref06_bound.eq x0 w Q).mpr h)

/-! pithref06_Next: pith/pithref06.Next; temporaries: 0:p 1:bit 2:p 3:bit -/
def pithref06_Next.H : Hints := { cut := fun  | _ => none, loop := fun  | _ => ([], 0), order := fun  | _ => [] }
def pithref06_Next.F [Pan] (x0 : Value) (x1 : Value) (w : World) (Q : Value → World → Prop) : Prop :=
 pN Try.prog (oCall 105 [x0]) w fun x6 w1 =>
 pN Try.prog (oBin .eql 3 (.tmp 7) (.const (.int .i64 0)) x1 (.int .i64 0)) w1 fun x8 w2 =>
 pIf x8
 (pN Try.prog (oBin .sub 3 (.const (.int .i64 2048)) (.tmp 10) (.int .i64 2048) x6) w2 fun x11 w3 =>
 pN Try.prog (oBin .quo 3 (.tmp 11) (.const (.int .i64 32)) x11 (.int .i64 32)) w3 fun x12 w4 =>
 pN Try.prog (oBin .add 3 (.tmp 9) (.tmp 12) x6 x12) w4 fun x13 w5 =>
 Q x13 w5)
 (pN Try.prog (oBin .quo 3 (.tmp 15) (.const (.int .i64 32)) x6 (.int .i64 32)) w2 fun x16 w6 =>
 pN Try.prog (oBin .sub 3 (.tmp 14) (.tmp 16) x6 x16) w6 fun x17 w7 =>
 Q x17 w7)
noncomputable def pithref06_Next.c : Code := match Try.f106.body with | some c => c | none => .skip
theorem pithref06_Next.eq [Pan] (x0 : Value) (x1 : Value) (w : World) (Q : Value → World → Prop) : cw Try.prog pithref06_Next.H pithref06_Next.c (endQ Try.prog Try.f106.results.toList Q) (argsE [x0, x1]) w = pithref06_Next.F x0 x1 w Q := by kernel_rfl
theorem pithref06_Next.calls [Pan] {x0 : Value} {x1 : Value} {w : World} {Q : Value → World → Prop} (h : pithref06_Next.F x0 x1 w Q) : Calls Try.prog 106 #[x0, x1] w (retP Q) :=
  calls_of_cw (H := pithref06_Next.H) (c := pithref06_Next.c) (args := [x0, x1]) mixed Try.func106 (by kernel_rfl) (by kernel_rfl) (Nat.le_of_ble_eq_true (by kernel_rfl)) ((pithref06_Next.eq x0 x1 w Q).mpr h)

/-! pithref06_Cost: pith/pithref06.Cost; temporaries: 0:p 1:bit 2:p 3:bit -/
def pithref06_Cost.H : Hints := { cut := fun  | _ => none, loop := fun  | _ => ([], 0), order := fun  | _ => [] }
def pithref06_Cost.F [Pan] (x0 : Value) (x1 : Value) (w : World) (Q : Value → World → Prop) : Prop :=
 pN Try.prog (oCall 105 [x0]) w fun x6 w1 =>
 pN Try.prog (oBin .eql 3 (.tmp 7) (.const (.int .i64 0)) x1 (.int .i64 0)) w1 fun x8 w2 =>
 pIf x8
 (pN Try.prog (oCall 122 [x6]) w2 fun x10 w3 =>
 Q x10 w3)
 (pN Try.prog (oBin .sub 3 (.const (.int .i64 2047)) (.tmp 11) (.int .i64 2047) x6) w2 fun x12 w4 =>
 pN Try.prog (oCall 122 [x12]) w4 fun x13 w5 =>
 Q x13 w5)
noncomputable def pithref06_Cost.c : Code := match Try.f117.body with | some c => c | none => .skip
theorem pithref06_Cost.eq [Pan] (x0 : Value) (x1 : Value) (w : World) (Q : Value → World → Prop) : cw Try.prog pithref06_Cost.H pithref06_Cost.c (endQ Try.prog Try.f117.results.toList Q) (argsE [x0, x1]) w = pithref06_Cost.F x0 x1 w Q := by kernel_rfl
theorem pithref06_Cost.calls [Pan] {x0 : Value} {x1 : Value} {w : World} {Q : Value → World → Prop} (h : pithref06_Cost.F x0 x1 w Q) : Calls Try.prog 117 #[x0, x1] w (retP Q) :=
  calls_of_cw (H := pithref06_Cost.H) (c := pithref06_Cost.c) (args := [x0, x1]) mixed Try.func117 (by kernel_rfl) (by kernel_rfl) (Nat.le_of_ble_eq_true (by kernel_rfl)) ((pithref06_Cost.eq x0 x1 w Q).mpr h)

/-! pithref06_cost: pith/pithref06.cost; temporaries: 0:p 1:p 3:w 4:c 5:i -/
def pithref06_cost.H : Hints := { cut := fun  | _ => none, loop := fun | 4 => ([3, 4, 5], 33553464) | 8 => ([3, 4], 33030168) | _ => ([], 0), order := fun  | _ => [] }
def pithref06_cost.F [Pan] (x0 : Value) (w : World) (Q : Value → World → Prop) : Prop :=
 pN Try.prog (oBin .quo 3 (.tmp 6) (.const (.int .i64 16)) x0 (.int .i64 16)) w fun x7 w1 =>
 pN Try.prog (oBin .mul 3 (.const (.int .i64 16)) (.tmp 7) (.int .i64 16) x7) w1 fun x8 w2 =>
 pN Try.prog (oBin .add 3 (.tmp 8) (.const (.int .i64 8)) x8 (.int .i64 8)) w2 fun x9 w3 =>
 ∃ (L4 : Value → Value → Value → World → Prop) (m4 : Value → Value → Value → World → Nat),
 L4 x9 (.int .i64 0) (.int .i64 0) w3 ∧
 ∀ (_k4 : Env) (w3l4 : Value) (c4l4 : Value) (i5l4 : Value) (w4 : World), L4 w3l4 c4l4 i5l4 w4 →
 pN Try.prog (oBin .lss 3 (.tmp 10) (.const (.int .i64 4)) i5l4 (.int .i64 4)) w4 fun x11 w5 =>
 pIf x11
 (pN Try.prog (oBin .mul 3 (.tmp 14) (.tmp 15) w3l4 w3l4) w5 fun x16 w6 =>
 pN Try.prog (oBin .mul 3 (.const (.int .i64 2)) (.tmp 17) (.int .i64 2) c4l4) w6 fun x18 w7 =>
 ∃ (L8 : Value → Value → World → Prop) (m8 : Value → Value → World → Nat),
 L8 x16 x18 w7 ∧
 ∀ (_k8 : Env) (w3l8 : Value) (c4l8 : Value) (w8 : World), L8 w3l8 c4l8 w8 →
 pN Try.prog (oBin .geq 3 (.tmp 19) (.const (.int .i64 65536)) w3l8 (.int .i64 65536)) w8 fun x20 w9 =>
 pIf x20
 (pN Try.prog (oBin .quo 3 (.tmp 21) (.const (.int .i64 2)) w3l8 (.int .i64 2)) w9 fun x22 w10 =>
 pN Try.prog (oBin .add 3 (.tmp 23) (.const (.int .i64 1)) c4l8 (.int .i64 1)) w10 fun x24 w11 =>
 (L8 x22 x24 w11 ∧ m8 x22 x24 w11 < m8 w3l8 c4l8 w8))
 (pN Try.prog (oBin .add 3 (.tmp 12) (.const (.int .i64 1)) i5l4 (.int .i64 1)) w9 fun x13 w12 =>
 (L4 w3l8 c4l8 x13 w12 ∧ m4 w3l8 c4l8 x13 w12 < m4 w3l4 c4l4 i5l4 w4)))
 (pN Try.prog (oBin .sub 3 (.const (.int .i64 161)) (.tmp 25) (.int .i64 161) c4l4) w5 fun x26 w13 =>
 Q x26 w13)
noncomputable def pithref06_cost.c : Code := match Try.f122.body with | some c => c | none => .skip
theorem pithref06_cost.eq [Pan] (x0 : Value) (w : World) (Q : Value → World → Prop) : cw Try.prog pithref06_cost.H pithref06_cost.c (endQ Try.prog Try.f122.results.toList Q) (argsE [x0]) w = pithref06_cost.F x0 w Q := by kernel_rfl
theorem pithref06_cost.calls [Pan] {x0 : Value} {w : World} {Q : Value → World → Prop} (h : pithref06_cost.F x0 w Q) : Calls Try.prog 122 #[x0] w (retP Q) :=
  calls_of_cw (H := pithref06_cost.H) (c := pithref06_cost.c) (args := [x0]) mixed Try.func122 (by kernel_rfl) (by kernel_rfl) (Nat.le_of_ble_eq_true (by kernel_rfl)) ((pithref06_cost.eq x0 w Q).mpr h)

end Go.Proofs.Ytoejaggkedlfmaa
