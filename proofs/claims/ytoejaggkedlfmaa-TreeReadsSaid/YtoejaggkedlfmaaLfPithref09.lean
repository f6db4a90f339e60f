/-
  Printed by a program of mine (lift.py): each function of the seat as a plain proposition over values and worlds; that the program meets it.
-/
import Derived.Test.YtoejaggkedlfmaaRows
import Derived.Test.YtoejaggkedlfmaaFacts
namespace Go.Proofs.Ytoejaggkedlfmaa
open Go
set_option linter.unusedSimpArgs false
set_option linter.unnecessarySimpa false
set_option linter.unusedSectionVars false
set_option linter.unusedVariables false
set_option maxRecDepth 100000

/-! pithref09_Put: pith/pithref09.Put; temporaries: 0:e 1:s 2:at 3:n 4:v 5:back 6:e 7:s 8:at 9:n 10:v 11:back 13:bad 14:w 15:i -/
def pithref09_Put.H : Hints := { cut := fun  | _ => none, loop := fun | 6 => ([15], 140737219952640) | _ => ([], 0), order := fun | 8 => [(0, 0), (1, 1), (2, 3), (3, 7), (4, 15), (5, 31), (6, 63), (7, 127), (8, 255), (9, 511), (10, 1023), (11, 2047), (12, 4095)] | _ => [] }
def pithref09_Put.F [Pan] (x0 : Value) (x1 : Value) (x2 : Value) (x3 : Value) (x4 : Value) (x5 : Value) (w : World) (Q : Value → World → Prop) : Prop :=
 pN Try.prog (oCall 114 [x1, x2, x3, x4]) w fun x20 w1 =>
 pIf x20
 (Q (.int .i64 7) w1)
 (pN Try.prog (oCall 116 [x3, x4, x5]) w1 fun x26 w2 =>
 pN Try.prog (oCall 115 [x2, x26]) w2 fun x27 w3 =>
 ∃ (L6 : Value → World → Prop) (m6 : Value → World → Nat),
 L6 (.int .i64 0) w3 ∧
 ∀ (_k6 : Env) (i15l6 : Value) (w4 : World), L6 i15l6 w4 →
 pN Try.prog (oBi .len #[171] 3 [false] [x27]) w4 fun x30 w5 =>
 pN Try.prog (oBin .lss 3 (.tmp 28) (.tmp 30) i15l6 x30) w5 fun x31 w6 =>
 pIf x31
 (pDr w6 fun w7 =>
 pA Try.prog (oIdx 171 x27 i15l6) fun x38 =>
 pA Try.prog (oFld 175 x38 0) fun x39 =>
 pL Try.prog (oLoad 3 x39) w7 fun x40 =>
 pA Try.prog (oIdx 171 x27 i15l6) fun x43 =>
 pA Try.prog (oFld 175 x43 1) fun x44 =>
 pL Try.prog (oLoad 3 x44) w7 fun x45 =>
 pN Try.prog (oCall 31 [x0, x1, x40, x45]) w7 fun _ w8 =>
 (True) ∧ (pN Try.prog (oBin .add 3 (.tmp 32) (.const (.int .i64 1)) i15l6 (.int .i64 1)) w8 fun x33 w9 =>
 (L6 x33 w9 ∧ m6 x33 w9 < m6 i15l6 w4)))
 (Q (.int .i64 0) w6))
noncomputable def pithref09_Put.c : Code := match Try.f99.body with | some c => c | none => .skip
theorem pithref09_Put.eq [Pan] (x0 : Value) (x1 : Value) (x2 : Value) (x3 : Value) (x4 : Value) (x5 : Value) (w : World) (Q : Value → World → Prop) : cw Try.prog pithref09_Put.H pithref09_Put.c (endQ Try.prog Try.f99.results.toList Q) (argsE [x0, x1, x2, x3, x4, x5]) w = pithref09_Put.F x0 x1 x2 x3 x4 x5 w Q := by kernel_rfl
theorem pithref09_Put.calls [Pan] {x0 : Value} {x1 : Value} {x2 : Value} {x3 : Value} {x4 : Value} {x5 : Value} {w : World} {Q : Value → World → Prop} (h : pithref09_Put.F x0 x1 x2 x3 x4 x5 w Q) : Calls Try.prog 99 #[x0, x1, x2, x3, x4, x5] w (retP Q) :=
  calls_of_cw (H := pithref09_Put.H) (c := pithref09_Put.c) (args := [x0, x1, x2, x3, x4, x5]) mixed Try.func99 (by kernel_rfl) (by kernel_rfl) (Nat.le_of_ble_eq_true (by kernel_rfl)) ((pithref09_Put.eq x0 x1 x2 x3 x4 x5 w Q).mpr h)

/-! pithref09_Cost: pith/pithref09.Cost; temporaries: 0:s 1:at 2:n 3:v 4:back 5:s 6:at 7:n 8:v 9:back 12:bad 13:w 14:sum 15:i 16:p 17:_ -/
def pithref09_Cost.H : Hints := { cut := fun  | _ => none, loop := fun | 7 => ([14, 15], 36028795945467904) | _ => ([], 0), order := fun  | _ => [] }
def pithref09_Cost.F [Pan] (x0 : Value) (x1 : Value) (x2 : Value) (x3 : Value) (x4 : Value) (w : World) (Q : Value → World → Prop) : Prop :=
 pN Try.prog (oCall 114 [x0, x1, x2, x3]) w fun x22 w1 =>
 pIf x22
 (Q (.tuple #[(.int .i64 0), (.int .i64 7)]) w1)
 (pN Try.prog (oCall 116 [x2, x3, x4]) w1 fun x28 w2 =>
 pN Try.prog (oCall 115 [x1, x28]) w2 fun x29 w3 =>
 ∃ (L7 : Value → Value → World → Prop) (m7 : Value → Value → World → Nat),
 L7 (.int .i64 0) (.int .i64 0) w3 ∧
 ∀ (_k7 : Env) (sum14l7 : Value) (i15l7 : Value) (w4 : World), L7 sum14l7 i15l7 w4 →
 pN Try.prog (oBi .len #[171] 3 [false] [x29]) w4 fun x32 w5 =>
 pN Try.prog (oBin .lss 3 (.tmp 30) (.tmp 32) i15l7 x32) w5 fun x33 w6 =>
 pIf x33
 (pN Try.prog (oIdx 171 x29 i15l7) w6 fun x40 w7 =>
 pN Try.prog (oFld 175 x40 0) w7 fun x41 w8 =>
 pN Try.prog (oLoad 3 x41) w8 fun x42 w9 =>
 pN Try.prog (oCall 79 [x0, x42]) w9 fun x43 w10 =>
 pN Try.prog (oExt x43 0) w10 fun x44 w11 =>
 pN Try.prog (oExt x43 1) w11 fun _ w12 =>
 pN Try.prog (oIdx 171 x29 i15l7) w12 fun x50 w13 =>
 pN Try.prog (oFld 175 x50 1) w13 fun x51 w14 =>
 pN Try.prog (oLoad 3 x51) w14 fun x52 w15 =>
 pN Try.prog (oCall 117 [x44, x52]) w15 fun x53 w16 =>
 pN Try.prog (oBin .add 3 (.tmp 46) (.tmp 53) sum14l7 x53) w16 fun x54 w17 =>
 pN Try.prog (oBin .add 3 (.tmp 34) (.const (.int .i64 1)) i15l7 (.int .i64 1)) w17 fun x35 w18 =>
 (L7 x54 x35 w18 ∧ m7 x54 x35 w18 < m7 sum14l7 i15l7 w4))
 (Q (.tuple #[sum14l7, (.int .i64 0)]) w6))
noncomputable def pithref09_Cost.c : Code := match Try.f100.body with | some c => c | none => .skip
theorem pithref09_Cost.eq [Pan] (x0 : Value) (x1 : Value) (x2 : Value) (x3 : Value) (x4 : Value) (w : World) (Q : Value → World → Prop) : cw Try.prog pithref09_Cost.H pithref09_Cost.c (endQ Try.prog Try.f100.results.toList Q) (argsE [x0, x1, x2, x3, x4]) w = pithref09_Cost.F x0 x1 x2 x3 x4 w Q := by kernel_rfl
theorem pithref09_Cost.calls [Pan] {x0 : Value} {x1 : Value} {x2 : Value} {x3 : Value} {x4 : Value} {w : World} {Q : Value → World → Prop} (h : pithref09_Cost.F x0 x1 x2 x3 x4 w Q) : Calls Try.prog 100 #[x0, x1, x2, x3, x4] w (retP Q) :=
  calls_of_cw (H := pithref09_Cost.H) (c := pithref09_Cost.c) (args := [x0, x1, x2, x3, x4]) mixed Try.func100 (by kernel_rfl) (by kernel_rfl) (Nat.le_of_ble_eq_true (by kernel_rfl)) ((pithref09_Cost.eq x0 x1 x2 x3 x4 w Q).mpr h)

/-! pithref09_Get: pith/pithref09.Get; temporaries: 0:d 1:s 2:at 3:n 4:back 5:d 6:s 7:at 8:n 9:back 12:there 13:l 14:i 15:w 16:bit 17:e 18:v 19:i -/
def pithref09_Get.H : Hints := { cut := fun | 16 => some ([18], 302229149060648080244736) | _ => none, loop := fun | 6 => ([13, 14], 72057593971076096) | 15 => ([18, 19], 302231382846063256535040) | _ => ([], 0), order := fun | 18 => [(0, 0), (1, 1), (2, 3), (3, 7), (4, 15), (5, 31), (6, 63), (7, 127), (8, 255), (9, 511)] | _ => [] }
def pithref09_Get.F [Pan] (x0 : Value) (x1 : Value) (x2 : Value) (x3 : Value) (x4 : Value) (w : World) (Q : Value → World → Prop) : Prop :=
 pN Try.prog (oCall 119 [x1, x2, x3]) w fun x23 w1 =>
 pN Try.prog (oUn .not x23) w1 fun x25 w2 =>
 pIf x25
 (Q (.tuple #[(.int .i64 0), (.int .i64 7)]) w2)
 (∃ (L6 : Value → Value → World → Prop) (m6 : Value → Value → World → Nat),
 L6 (.slice none 0 0) (.int .i64 0) w2 ∧
 ∀ (_k6 : Env) (l13l6 : Value) (i14l6 : Value) (w3 : World), L6 l13l6 i14l6 w3 →
 pN Try.prog (oBin .lss 3 (.tmp 26) (.tmp 27) i14l6 x3) w3 fun x28 w4 =>
 pIf x28
 (pN Try.prog (oBs 23 0 []) w4 fun x32 w5 =>
 pN Try.prog (oBi .append #[23, 23] 23 [false, false] [x32, l13l6]) w5 fun x34 w6 =>
 pN Try.prog (oBs 23 1 [(0, (.int .i64 0))]) w6 fun x35 w7 =>
 pN Try.prog (oBi .append #[23, 23] 23 [false, false] [x34, x35]) w7 fun x36 w8 =>
 pN Try.prog (oCall 115 [x2, x36]) w8 fun x37 w9 =>
 pN Try.prog (oIdx 171 x37 i14l6) w9 fun x43 w10 =>
 pN Try.prog (oFld 175 x43 0) w10 fun x44 w11 =>
 pN Try.prog (oLoad 3 x44) w11 fun x45 w12 =>
 pN Try.prog (oCall 50 [x0, x1, x45]) w12 fun x46 w13 =>
 pN Try.prog (oExt x46 0) w13 fun x47 w14 =>
 pN Try.prog (oExt x46 1) w14 fun x48 w15 =>
 pN Try.prog (oBin .neq 3 (.tmp 49) (.const (.int .i64 0)) x48 (.int .i64 0)) w15 fun x50 w16 =>
 pIf x50
 (Q (.tuple #[(.int .i64 0), x48]) w16)
 (pN Try.prog (oBs 23 1 [(0, x47)]) w16 fun x54 w17 =>
 pN Try.prog (oBi .append #[23, 23] 23 [false, false] [l13l6, x54]) w17 fun x55 w18 =>
 pN Try.prog (oBin .add 3 (.tmp 29) (.const (.int .i64 1)) i14l6 (.int .i64 1)) w18 fun x30 w19 =>
 (L6 x55 x30 w19 ∧ m6 x55 x30 w19 < m6 l13l6 i14l6 w3)))
 (∃ (L15 : Value → Value → World → Prop) (m15 : Value → Value → World → Nat),
 L15 (.int .i64 0) (.int .i64 0) w4 ∧
 ∀ (_k15 : Env) (v18l15 : Value) (i19l15 : Value) (w20 : World), L15 v18l15 i19l15 w20 →
 pN Try.prog (oBin .lss 3 (.tmp 56) (.tmp 57) i19l15 x3) w20 fun x58 w21 =>
 pIf x58
 (∃ I16 : Value → World → Prop,
 (pIf x4
 (pDr w21 fun w22 =>
 pA Try.prog (oIdx 23 l13l6 i19l15) fun x65 =>
 pL Try.prog (oLoad 3 x65) w22 fun x66 =>
 pN Try.prog (oCall 120 [i19l15]) w22 fun x68 w23 =>
 ((Sem.run Try.prog (oLoad 3 x65) w23 = .ok (.value x66) w23) ∧ True) ∧ (pA Try.prog (oBin .mul 3 (.tmp 66) (.tmp 68) x66 x68) fun x69 =>
 pA Try.prog (oBin .add 3 (.tmp 62) (.tmp 69) v18l15 x69) fun x70 =>
 I16 x70 w23))
 (pN Try.prog (oBin .mul 3 (.const (.int .i64 2)) (.tmp 71) (.int .i64 2) v18l15) w21 fun x72 w24 =>
 pN Try.prog (oIdx 23 l13l6 i19l15) w24 fun x75 w25 =>
 pN Try.prog (oLoad 3 x75) w25 fun x76 w26 =>
 pN Try.prog (oBin .add 3 (.tmp 72) (.tmp 76) x72 x76) w26 fun x77 w27 =>
 I16 x77 w27)) ∧
 ∀ (_j16 : Env) (v18c16 : Value) (w28 : World), I16 v18c16 w28 →
 pN Try.prog (oBin .add 3 (.tmp 59) (.const (.int .i64 1)) i19l15 (.int .i64 1)) w28 fun x60 w29 =>
 (L15 v18c16 x60 w29 ∧ m15 v18c16 x60 w29 < m15 v18l15 i19l15 w20))
 (Q (.tuple #[v18l15, (.int .i64 0)]) w21)))
noncomputable def pithref09_Get.c : Code := match Try.f102.body with | some c => c | none => .skip
theorem pithref09_Get.eq [Pan] (x0 : Value) (x1 : Value) (x2 : Value) (x3 : Value) (x4 : Value) (w : World) (Q : Value → World → Prop) : cw Try.prog pithref09_Get.H pithref09_Get.c (endQ Try.prog Try.f102.results.toList Q) (argsE [x0, x1, x2, x3, x4]) w = pithref09_Get.F x0 x1 x2 x3 x4 w Q := by kernel_rfl
theorem pithref09_Get.calls [Pan] {x0 : Value} {x1 : Value} {x2 : Value} {x3 : Value} {x4 : Value} {w : World} {Q : Value → World → Prop} (h : pithref09_Get.F x0 x1 x2 x3 x4 w Q) : Calls Try.prog 102 #[x0, x1, x2, x3, x4] w (retP Q) :=
  calls_of_cw (H := pithref09_Get.H) (c := pithref09_Get.c) (args := [x0, x1, x2, x3, x4]) mixed Try.func102 (by kernel_rfl) (by kernel_rfl) (Nat.le_of_ble_eq_true (by kernel_rfl)) ((pithref09_Get.eq x0 x1 x2 x3 x4 w Q).mpr h)

/-! pithref09_refused: pith/pithref09.refused; temporaries: 0:s 1:at 2:n 3:v 4:s 5:at 6:n 7:v 9:there -/
def pithref09_refused.H : Hints := { cut := fun  | _ => none, loop := fun  | _ => ([], 0), order := fun  | _ => [] }
def pithref09_refused.F [Pan] (x0 : Value) (x1 : Value) (x2 : Value) (x3 : Value) (w : World) (Q : Value → World → Prop) : Prop :=
 pN Try.prog (oCall 119 [x0, x1, x2]) w fun x13 w1 =>
 pN Try.prog (oUn .not x13) w1 fun x15 w2 =>
 pGd (gB x15 false) (pN Try.prog (oMv x3) w2) w2 fun x17 w3 =>
 pGd (gB x15 false) (pN Try.prog (oBin .lss 3 (.tmp 17) (.const (.int .i64 0)) x17 (.int .i64 0)) w3) w3 fun x18 w4 =>
 pN Try.prog (oPick x15 (.bool true) x18) w4 fun x19 w5 =>
 pGd (gB x19 false) (pN Try.prog (oMv x3) w5) w5 fun x21 w6 =>
 pGd (gB x19 false) (pN Try.prog (oMv x2) w6) w6 fun x22 w7 =>
 pGd (gB x19 false) (pN Try.prog (oCall 120 [x22]) w7) w7 fun x23 w8 =>
 pGd (gB x19 false) (pN Try.prog (oBin .geq 3 (.tmp 21) (.tmp 23) x21 x23) w8) w8 fun x24 w9 =>
 pN Try.prog (oPick x19 (.bool true) x24) w9 fun x25 w10 =>
 Q x25 w10
noncomputable def pithref09_refused.c : Code := match Try.f114.body with | some c => c | none => .skip
theorem pithref09_refused.eq [Pan] (x0 : Value) (x1 : Value) (x2 : Value) (x3 : Value) (w : World) (Q : Value → World → Prop) : cw Try.prog pithref09_refused.H pithref09_refused.c (endQ Try.prog Try.f114.results.toList Q) (argsE [x0, x1, x2, x3]) w = pithref09_refused.F x0 x1 x2 x3 w Q := by kernel_rfl
theorem pithref09_refused.calls [Pan] {x0 : Value} {x1 : Value} {x2 : Value} {x3 : Value} {w : World} {Q : Value → World → Prop} (h : pithref09_refused.F x0 x1 x2 x3 w Q) : Calls Try.prog 114 #[x0, x1, x2, x3] w (retP Q) :=
  calls_of_cw (H := pithref09_refused.H) (c := pithref09_refused.c) (args := [x0, x1, x2, x3]) mixed Try.func114 (by kernel_rfl) (by kernel_rfl) (Nat.le_of_ble_eq_true (by kernel_rfl)) ((pithref09_refused.eq x0 x1 x2 x3 w Q).mpr h)

/-! pithref09_Way: pith/pithref09.Way; temporaries: 0:at 1:l 2:at 3:l 5:w 6:m 7:i -/
def pithref09_Way.H : Hints := { cut := fun  | _ => none, loop := fun | 4 => ([5, 6, 7], 4294967264) | _ => ([], 0), order := fun  | _ => [] }
def pithref09_Way.F [Pan] (x0 : Value) (x1 : Value) (w : World) (Q : Value → World → Prop) : Prop :=
 ∃ (L4 : Value → Value → Value → World → Prop) (m4 : Value → Value → Value → World → Nat),
 L4 (.slice none 0 0) (.int .i64 1) (.int .i64 0) w ∧
 ∀ (_k4 : Env) (w5l4 : Value) (m6l4 : Value) (i7l4 : Value) (w1 : World), L4 w5l4 m6l4 i7l4 w1 →
 pN Try.prog (oBi .len #[23] 3 [false] [x1]) w1 fun x10 w2 =>
 pN Try.prog (oBin .lss 3 (.tmp 8) (.tmp 10) i7l4 x10) w2 fun x11 w3 =>
 pIf x11
 (pN Try.prog (oBin .add 3 (.tmp 15) (.tmp 16) x0 m6l4) w3 fun x17 w4 =>
 pN Try.prog (oIdx 23 x1 i7l4) w4 fun x20 w5 =>
 pN Try.prog (oLoad 3 x20) w5 fun x21 w6 =>
 pN Try.prog (oBuild 175 [(0, x17), (1, x21)]) w6 fun x22 w7 =>
 pN Try.prog (oBs 171 1 [(0, x22)]) w7 fun x23 w8 =>
 pN Try.prog (oBi .append #[171, 171] 171 [false, false] [w5l4, x23]) w8 fun x24 w9 =>
 pN Try.prog (oBin .mul 3 (.const (.int .i64 2)) (.tmp 25) (.int .i64 2) m6l4) w9 fun x26 w10 =>
 pN Try.prog (oIdx 23 x1 i7l4) w10 fun x29 w11 =>
 pN Try.prog (oLoad 3 x29) w11 fun x30 w12 =>
 pN Try.prog (oBin .add 3 (.tmp 26) (.tmp 30) x26 x30) w12 fun x31 w13 =>
 pN Try.prog (oBin .add 3 (.tmp 12) (.const (.int .i64 1)) i7l4 (.int .i64 1)) w13 fun x13 w14 =>
 (L4 x24 x31 x13 w14 ∧ m4 x24 x31 x13 w14 < m4 w5l4 m6l4 i7l4 w1))
 (Q w5l4 w3)
noncomputable def pithref09_Way.c : Code := match Try.f115.body with | some c => c | none => .skip
theorem pithref09_Way.eq [Pan] (x0 : Value) (x1 : Value) (w : World) (Q : Value → World → Prop) : cw Try.prog pithref09_Way.H pithref09_Way.c (endQ Try.prog Try.f115.results.toList Q) (argsE [x0, x1]) w = pithref09_Way.F x0 x1 w Q := by kernel_rfl
theorem pithref09_Way.calls [Pan] {x0 : Value} {x1 : Value} {w : World} {Q : Value → World → Prop} (h : pithref09_Way.F x0 x1 w Q) : Calls Try.prog 115 #[x0, x1] w (retP Q) :=
  calls_of_cw (H := pithref09_Way.H) (c := pithref09_Way.c) (args := [x0, x1]) mixed Try.func115 (by kernel_rfl) (by kernel_rfl) (Nat.le_of_ble_eq_true (by kernel_rfl)) ((pithref09_Way.eq x0 x1 w Q).mpr h)

/-! pithref09_bits: pith/pithref09.bits; temporaries: 0:n 1:v 2:back 3:n 4:v 5:back 7:l 8:i 9:k -/
def pithref09_bits.H : Hints := { cut := fun | 4 => some ([7], 536838784) | 8 => some ([9], 1573376) | _ => none, loop := fun | 3 => ([7, 8], 536870784) | _ => ([], 0), order := fun  | _ => [] }
def pithref09_bits.F [Pan] (x0 : Value) (x1 : Value) (x2 : Value) (w : World) (Q : Value → World → Prop) : Prop :=
 ∃ (L3 : Value → Value → World → Prop) (m3 : Value → Value → World → Nat),
 L3 (.slice none 0 0) (.int .i64 0) w ∧
 ∀ (_k3 : Env) (l7l3 : Value) (i8l3 : Value) (w1 : World), L3 l7l3 i8l3 w1 →
 pN Try.prog (oBin .lss 3 (.tmp 10) (.tmp 11) i8l3 x0) w1 fun x12 w2 =>
 pIf x12
 (∃ I4 : Value → World → Prop,
 (pN Try.prog (oBin .sub 3 (.tmp 15) (.const (.int .i64 1)) x0 (.int .i64 1)) w2 fun x16 w3 =>
 pN Try.prog (oBin .sub 3 (.tmp 16) (.tmp 17) x16 i8l3) w3 fun x18 w4 =>
 ∃ I8 : Value → World → Prop,
 (pIf x2
 (I8 i8l3 w4)
 (I8 x18 w4)) ∧
 ∀ (_j8 : Env) (k9c8 : Value) (w5 : World), I8 k9c8 w5 →
 pN Try.prog (oCall 120 [k9c8]) w5 fun x24 w6 =>
 pN Try.prog (oBin .quo 3 (.tmp 22) (.tmp 24) x1 x24) w6 fun x25 w7 =>
 pN Try.prog (oBin .rem 3 (.tmp 25) (.const (.int .i64 2)) x25 (.int .i64 2)) w7 fun x26 w8 =>
 pN Try.prog (oBs 23 1 [(0, x26)]) w8 fun x27 w9 =>
 pN Try.prog (oBi .append #[23, 23] 23 [false, false] [l7l3, x27]) w9 fun x28 w10 =>
 I4 x28 w10) ∧
 ∀ (_j4 : Env) (l7c4 : Value) (w11 : World), I4 l7c4 w11 →
 pN Try.prog (oBin .add 3 (.tmp 13) (.const (.int .i64 1)) i8l3 (.int .i64 1)) w11 fun x14 w12 =>
 (L3 l7c4 x14 w12 ∧ m3 l7c4 x14 w12 < m3 l7l3 i8l3 w1))
 (Q l7l3 w2)
noncomputable def pithref09_bits.c : Code := match Try.f116.body with | some c => c | none => .skip
theorem pithref09_bits.eq [Pan] (x0 : Value) (x1 : Value) (x2 : Value) (w : World) (Q : Value → World → Prop) : cw Try.prog pithref09_bits.H pithref09_bits.c (endQ Try.prog Try.f116.results.toList Q) (argsE [x0, x1, x2]) w = pithref09_bits.F x0 x1 x2 w Q := by kernel_rfl
theorem pithref09_bits.calls [Pan] {x0 : Value} {x1 : Value} {x2 : Value} {w : World} {Q : Value → World → Prop} (h : pithref09_bits.F x0 x1 x2 w Q) : Calls Try.prog 116 #[x0, x1, x2] w (retP Q) :=
  calls_of_cw (H := pithref09_bits.H) (c := pithref09_bits.c) (args := [x0, x1, x2]) mixed Try.func116 (by kernel_rfl) (by kernel_rfl) (Nat.le_of_ble_eq_true (by kernel_rfl)) ((pithref09_bits.eq x0 x1 x2 w Q).mpr h)

/-! pithref09_There: pith/pithref09.There; temporaries: 0:s 1:at 2:n 3:s 4:at 5:n -/
def pithref09_There.H : Hints := { cut := fun  | _ => none, loop := fun  | _ => ([], 0), order := fun | 1 => [(0, 0), (1, 1), (2, 3), (3, 7), (4, 15), (5, 31), (6, 63), (7, 127), (8, 255), (9, 511), (10, 1023), (11, 2047), (12, 4095), (13, 8191), (14, 16383), (15, 32767), (16, 65535), (17, 131071), (18, 262143), (19, 524287), (20, 1048575), (22, 2097151), (23, 6291455), (24, 14680063), (25, 31457279), (26, 65011711), (27, 132120575), (28, 266338303), (21, 534773759), (29, 536870911), (30, 1073741823), (31, 2147483647)] | _ => [] }
def pithref09_There.F [Pan] (x0 : Value) (x1 : Value) (x2 : Value) (w : World) (Q : Value → World → Prop) : Prop :=
 pDr w fun w1 =>
 pA Try.prog (oBin .geq 3 (.tmp 7) (.const (.int .i64 0)) x2 (.int .i64 0)) fun x8 =>
 gA (gB x8 true) (pA Try.prog (oMv x2)) fun x10 =>
 gA (gB x8 true) (pA Try.prog (oBin .leq 3 (.tmp 10) (.const (.int .i64 16)) x10 (.int .i64 16))) fun x11 =>
 pA Try.prog (oPick x8 x11 (.bool false)) fun x12 =>
 gA (gB x12 true) (pA Try.prog (oMv x1)) fun x14 =>
 gA (gB x12 true) (pA Try.prog (oBin .geq 3 (.tmp 14) (.const (.int .i64 0)) x14 (.int .i64 0))) fun x15 =>
 pA Try.prog (oPick x12 x15 (.bool false)) fun x16 =>
 gA (gB x16 true) (pA Try.prog (oMv x1)) fun x18 =>
 gA (gB x16 true) (pA Try.prog (oMv x0)) fun x19 =>
 gA (gB x16 true) (pA Try.prog (oNil x19)) fun x20 =>
 gA (gB x16 true) (pA Try.prog (oFld 145 x20 1)) fun x21 =>
 gA (gB x16 true) (pL Try.prog (oLoad 23 x21) w1) fun x22 =>
 gA (gB x16 true) (pA Try.prog (oBi .len #[23] 3 [false] [x22])) fun x23 =>
 gA (gB x16 true) (pA Try.prog (oBin .leq 3 (.tmp 18) (.tmp 23) x18 x23)) fun x24 =>
 pA Try.prog (oPick x16 x24 (.bool false)) fun x25 =>
 gA (gB x25 true) (pA Try.prog (oMv x2)) fun x27 =>
 gA (gB x25 true) (pA Try.prog (oMv x0)) fun x29 =>
 gA (gB x25 true) (pA Try.prog (oNil x29)) fun x30 =>
 gA (gB x25 true) (pA Try.prog (oFld 145 x30 1)) fun x31 =>
 gA (gB x25 true) (pL Try.prog (oLoad 23 x31) w1) fun x32 =>
 gA (gB x25 true) (pA Try.prog (oBi .len #[23] 3 [false] [x32])) fun x33 =>
 gA (gB x25 true) (pA Try.prog (oMv x1)) fun x34 =>
 gA (gB x25 true) (pA Try.prog (oBin .sub 3 (.tmp 33) (.tmp 34) x33 x34)) fun x35 =>
 pGd (gB x25 true) (pN Try.prog (oCall 120 [x27]) w1) w1 fun x28 w2 =>
 ((((gB x25 true) = true → Sem.run Try.prog (oLoad 23 x31) w2 = .ok (.value x32) w2)) ∧ True) ∧ (gA (gB x25 true) (pA Try.prog (oBin .leq 3 (.tmp 28) (.tmp 35) x28 x35)) fun x36 =>
 pA Try.prog (oPick x25 x36 (.bool false)) fun x37 =>
 Q x37 w2)
noncomputable def pithref09_There.c : Code := match Try.f119.body with | some c => c | none => .skip
theorem pithref09_There.eq [Pan] (x0 : Value) (x1 : Value) (x2 : Value) (w : World) (Q : Value → World → Prop) : cw Try.prog pithref09_There.H pithref09_There.c (endQ Try.prog Try.f119.results.toList Q) (argsE [x0, x1, x2]) w = pithref09_There.F x0 x1 x2 w Q := by kernel_rfl
theorem pithref09_There.calls [Pan] {x0 : Value} {x1 : Value} {x2 : Value} {w : World} {Q : Value → World → Prop} (h : pithref09_There.F x0 x1 x2 w Q) : Calls Try.prog 119 #[x0, x1, x2] w (retP Q) :=
  calls_of_cw (H := pithref09_There.H) (c := pithref09_There.c) (args := [x0, x1, x2]) mixed Try.func119 (by kernel_rfl) (by kernel_rfl) (Nat.le_of_ble_eq_true (by kernel_rfl)) ((pithref09_There.eq x0 x1 x2 w Q).mpr h)

/-! pithref09_two: pith/pithref09.two; temporaries: 0:n 1:n 3:v 4:i -/
def pithref09_two.H : Hints := { cut := fun  | _ => none, loop := fun | 3 => ([3, 4], 4088) | _ => ([], 0), order := fun  | _ => [] }
def pithref09_two.F [Pan] (x0 : Value) (w : World) (Q : Value → World → Prop) : Prop :=
 ∃ (L3 : Value → Value → World → Prop) (m3 : Value → Value → World → Nat),
 L3 (.int .i64 1) (.int .i64 0) w ∧
 ∀ (_k3 : Env) (v3l3 : Value) (i4l3 : Value) (w1 : World), L3 v3l3 i4l3 w1 →
 pN Try.prog (oBin .lss 3 (.tmp 5) (.tmp 6) i4l3 x0) w1 fun x7 w2 =>
 pIf x7
 (pN Try.prog (oBin .mul 3 (.const (.int .i64 2)) (.tmp 10) (.int .i64 2) v3l3) w2 fun x11 w3 =>
 pN Try.prog (oBin .add 3 (.tmp 8) (.const (.int .i64 1)) i4l3 (.int .i64 1)) w3 fun x9 w4 =>
 (L3 x11 x9 w4 ∧ m3 x11 x9 w4 < m3 v3l3 i4l3 w1))
 (Q v3l3 w2)
noncomputable def pithref09_two.c : Code := match Try.f120.body with | some c => c | none => .skip
theorem pithref09_two.eq [Pan] (x0 : Value) (w : World) (Q : Value → World → Prop) : cw Try.prog pithref09_two.H pithref09_two.c (endQ Try.prog Try.f120.results.toList Q) (argsE [x0]) w = pithref09_two.F x0 w Q := by kernel_rfl
theorem pithref09_two.calls [Pan] {x0 : Value} {w : World} {Q : Value → World → Prop} (h : pithref09_two.F x0 w Q) : Calls Try.prog 120 #[x0] w (retP Q) :=
  calls_of_cw (H := pithref09_two.H) (c := pithref09_two.c) (args := [x0]) mixed Try.func120 (by kernel_rfl) (by kernel_rfl) (Nat.le_of_ble_eq_true (by kernel_rfl)) ((pithref09_two.eq x0 w Q).mpr h)

end Go.Proofs.Ytoejaggkedlfmaa
