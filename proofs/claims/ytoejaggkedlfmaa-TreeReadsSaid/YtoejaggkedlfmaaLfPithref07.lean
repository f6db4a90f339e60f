/-
  Printed by a program of mine (lift.py): each function of the seat as a plain proposition over values and worlds; that the program meets it.
-/
import Derived.Test.YtoejaggkedlfmaaRows
import Derived.Test.YtoejaggkedlfmaaFacts
namespace Go.Proofs.Ytoejaggkedlfmaa
open Go
set_option linter.unusedSimpArgs false
set_option linter.unnecessarySimpa false
set_option linter.unusedSectionVars false
set_option linter.unusedVariables false
set_option maxRecDepth 100000

/-! pithref07_New: pith/pithref07.New; temporaries:  -/
def pithref07_New.H : Hints := { cut := fun  | _ => none, loop := fun  | _ => ([], 0), order := fun  | _ => [] }
def pithref07_New.F [Pan]  (w : World) (Q : Value → World → Prop) : Prop :=
 pN Try.prog (oMk 29 (.int .i64 5) (.int .i64 5)) w fun x1 w1 =>
 pN Try.prog (oBuild 139 [(0, x1), (1, (.int .u32 4294967295))]) w1 fun x2 w2 =>
 pN Try.prog (oBox 139 x2) w2 fun x3 w3 =>
 Q x3 w3
noncomputable def pithref07_New.c : Code := match Try.f30.body with | some c => c | none => .skip
theorem pithref07_New.eq [Pan]  (w : World) (Q : Value → World → Prop) : cw Try.prog pithref07_New.H pithref07_New.c (endQ Try.prog Try.f30.results.toList Q) (argsE []) w = pithref07_New.F  w Q := by kernel_rfl
theorem pithref07_New.calls [Pan]  {w : World} {Q : Value → World → Prop} (h : pithref07_New.F  w Q) : Calls Try.prog 30 #[] w (retP Q) :=
  calls_of_cw (H := pithref07_New.H) (c := pithref07_New.c) (args := []) mixed Try.func30 (by kernel_rfl) (by kernel_rfl) (Nat.le_of_ble_eq_true (by kernel_rfl)) ((pithref07_New.eq  w Q).mpr h)

/-! pithref07_Encoder_Bit: (*pith/pithref07.Encoder).Bit; temporaries: 0:e 1:s 2:i 3:bit 4:e 5:s 6:i 7:bit 9:p 10:f -/
def pithref07_Encoder_Bit.H : Hints := { cut := fun  | _ => none, loop := fun  | _ => ([], 0), order := fun  | _ => [] }
def pithref07_Encoder_Bit.F [Pan] (x0 : Value) (x1 : Value) (x2 : Value) (x3 : Value) (w : World) (Q : Value → World → Prop) : Prop :=
 pN Try.prog (oCall 79 [x1, x2]) w fun x14 w1 =>
 pN Try.prog (oExt x14 0) w1 fun x15 w2 =>
 pN Try.prog (oExt x14 1) w2 fun x16 w3 =>
 pN Try.prog (oBin .neq 3 (.tmp 17) (.const (.int .i64 0)) x16 (.int .i64 0)) w3 fun x18 w4 =>
 pIf x18
 (Q (.int .i64 7) w4)
 (pN Try.prog (oNil x0) w4 fun x21 w5 =>
 pN Try.prog (oFld 139 x21 1) w5 fun x22 w6 =>
 pN Try.prog (oLoad 26 x22) w6 fun x23 w7 =>
 pN Try.prog (oCall 81 [x23, x15]) w7 fun x25 w8 =>
 pN Try.prog (oCall 80 [x0, x25, x3]) w8 fun _ w9 =>
 pN Try.prog (oCall 82 [x1, x2, x3]) w9 fun _ w10 =>
 Q (.int .i64 0) w10)
noncomputable def pithref07_Encoder_Bit.c : Code := match Try.f31.body with | some c => c | none => .skip
theorem pithref07_Encoder_Bit.eq [Pan] (x0 : Value) (x1 : Value) (x2 : Value) (x3 : Value) (w : World) (Q : Value → World → Prop) : cw Try.prog pithref07_Encoder_Bit.H pithref07_Encoder_Bit.c (endQ Try.prog Try.f31.results.toList Q) (argsE [x0, x1, x2, x3]) w = pithref07_Encoder_Bit.F x0 x1 x2 x3 w Q := by kernel_rfl
theorem pithref07_Encoder_Bit.calls [Pan] {x0 : Value} {x1 : Value} {x2 : Value} {x3 : Value} {w : World} {Q : Value → World → Prop} (h : pithref07_Encoder_Bit.F x0 x1 x2 x3 w Q) : Calls Try.prog 31 #[x0, x1, x2, x3] w (retP Q) :=
  calls_of_cw (H := pithref07_Encoder_Bit.H) (c := pithref07_Encoder_Bit.c) (args := [x0, x1, x2, x3]) mixed Try.func31 (by kernel_rfl) (by kernel_rfl) (Nat.le_of_ble_eq_true (by kernel_rfl)) ((pithref07_Encoder_Bit.eq x0 x1 x2 x3 w Q).mpr h)

/-! pithref07_Encoder_Direct: (*pith/pithref07.Encoder).Direct; temporaries: 0:e 1:v 2:n 3:e 4:v 5:n 7:i -/
def pithref07_Encoder_Direct.H : Hints := { cut := fun | 5 => some ([], 2199022206976) | 9 => some ([], 549487378432) | _ => none, loop := fun | 4 => ([7], 2199023190144) | _ => ([], 0), order := fun  | _ => [] }
def pithref07_Encoder_Direct.F [Pan] (x0 : Value) (x1 : Value) (x2 : Value) (w : World) (Q : Value → World → Prop) : Prop :=
 pN Try.prog (oBin .lss 3 (.tmp 8) (.const (.int .i64 0)) x2 (.int .i64 0)) w fun x9 w1 =>
 pGd (gB x9 false) (pN Try.prog (oMv x2) w1) w1 fun x11 w2 =>
 pGd (gB x9 false) (pN Try.prog (oBin .gtr 3 (.tmp 11) (.const (.int .i64 32)) x11 (.int .i64 32)) w2) w2 fun x12 w3 =>
 pN Try.prog (oPick x9 (.bool true) x12) w3 fun x13 w4 =>
 pIf x13
 (Q (.int .i64 7) w4)
 (pN Try.prog (oBin .sub 3 (.tmp 14) (.const (.int .i64 1)) x2 (.int .i64 1)) w4 fun x15 w5 =>
 ∃ (L4 : Value → World → Prop) (m4 : Value → World → Nat),
 L4 x15 w5 ∧
 ∀ (_k4 : Env) (i7l4 : Value) (w6 : World), L4 i7l4 w6 →
 pN Try.prog (oBin .geq 3 (.tmp 16) (.const (.int .i64 0)) i7l4 (.int .i64 0)) w6 fun x17 w7 =>
 pIf x17
 (∃ I5 : World → Prop,
 (pN Try.prog (oNil x0) w7 fun x22 w8 =>
 pN Try.prog (oFld 139 x22 1) w8 fun x23 w9 =>
 pN Try.prog (oLoad 26 x23) w9 fun x24 w10 =>
 pN Try.prog (oBin .quo 26 (.tmp 24) (.const (.int .u32 2)) x24 (.int .u32 2)) w10 fun x25 w11 =>
 pN Try.prog (oNil x0) w11 fun x26 w12 =>
 pN Try.prog (oFld 139 x26 1) w12 fun x27 w13 =>
 pN Try.prog (oStore 26 x27 x25) w13 fun _ w14 =>
 ∃ I9 : World → Prop,
 (pN Try.prog (oBin .shr 26 (.tmp 28) (.tmp 29) x1 i7l4) w14 fun x30 w15 =>
 pN Try.prog (oBin .rem 26 (.tmp 30) (.const (.int .u32 2)) x30 (.int .u32 2)) w15 fun x31 w16 =>
 pN Try.prog (oBin .eql 26 (.tmp 31) (.const (.int .u32 1)) x31 (.int .u32 1)) w16 fun x32 w17 =>
 pIf x32
 (pN Try.prog (oNil x0) w17 fun x35 w18 =>
 pN Try.prog (oFld 139 x35 1) w18 fun x36 w19 =>
 pN Try.prog (oLoad 26 x36) w19 fun x37 w20 =>
 pN Try.prog (oCall 83 [x0, x37]) w20 fun _ w21 =>
 I9 w21)
 (I9 w17)) ∧
 ∀ (_j9 : Env) (w22 : World), I9 w22 →
 pN Try.prog (oCall 84 [x0]) w22 fun _ w23 =>
 I5 w23) ∧
 ∀ (_j5 : Env) (w24 : World), I5 w24 →
 pN Try.prog (oBin .sub 3 (.tmp 18) (.const (.int .i64 1)) i7l4 (.int .i64 1)) w24 fun x19 w25 =>
 (L4 x19 w25 ∧ m4 x19 w25 < m4 i7l4 w6))
 (Q (.int .i64 0) w7))
noncomputable def pithref07_Encoder_Direct.c : Code := match Try.f32.body with | some c => c | none => .skip
theorem pithref07_Encoder_Direct.eq [Pan] (x0 : Value) (x1 : Value) (x2 : Value) (w : World) (Q : Value → World → Prop) : cw Try.prog pithref07_Encoder_Direct.H pithref07_Encoder_Direct.c (endQ Try.prog Try.f32.results.toList Q) (argsE [x0, x1, x2]) w = pithref07_Encoder_Direct.F x0 x1 x2 w Q := by kernel_rfl
theorem pithref07_Encoder_Direct.calls [Pan] {x0 : Value} {x1 : Value} {x2 : Value} {w : World} {Q : Value → World → Prop} (h : pithref07_Encoder_Direct.F x0 x1 x2 w Q) : Calls Try.prog 32 #[x0, x1, x2] w (retP Q) :=
  calls_of_cw (H := pithref07_Encoder_Direct.H) (c := pithref07_Encoder_Direct.c) (args := [x0, x1, x2]) mixed Try.func32 (by kernel_rfl) (by kernel_rfl) (Nat.le_of_ble_eq_true (by kernel_rfl)) ((pithref07_Encoder_Direct.eq x0 x1 x2 w Q).mpr h)

/-! pithref07_Encoder_Size: (*pith/pithref07.Encoder).Size; temporaries: 0:e 1:e -/
def pithref07_Encoder_Size.H : Hints := { cut := fun  | _ => none, loop := fun  | _ => ([], 0), order := fun  | _ => [] }
def pithref07_Encoder_Size.F [Pan] (x0 : Value) (w : World) (Q : Value → World → Prop) : Prop :=
 pN Try.prog (oNil x0) w fun x4 w1 =>
 pN Try.prog (oFld 139 x4 2) w1 fun x5 w2 =>
 pN Try.prog (oLoad 3 x5) w2 fun x6 w3 =>
 pN Try.prog (oBin .add 3 (.tmp 6) (.const (.int .i64 5)) x6 (.int .i64 5)) w3 fun x7 w4 =>
 Q x7 w4
noncomputable def pithref07_Encoder_Size.c : Code := match Try.f33.body with | some c => c | none => .skip
theorem pithref07_Encoder_Size.eq [Pan] (x0 : Value) (w : World) (Q : Value → World → Prop) : cw Try.prog pithref07_Encoder_Size.H pithref07_Encoder_Size.c (endQ Try.prog Try.f33.results.toList Q) (argsE [x0]) w = pithref07_Encoder_Size.F x0 w Q := by kernel_rfl
theorem pithref07_Encoder_Size.calls [Pan] {x0 : Value} {w : World} {Q : Value → World → Prop} (h : pithref07_Encoder_Size.F x0 w Q) : Calls Try.prog 33 #[x0] w (retP Q) :=
  calls_of_cw (H := pithref07_Encoder_Size.H) (c := pithref07_Encoder_Size.c) (args := [x0]) mixed Try.func33 (by kernel_rfl) (by kernel_rfl) (Nat.le_of_ble_eq_true (by kernel_rfl)) ((pithref07_Encoder_Size.eq x0 w Q).mpr h)

/-! pithref07_Encoder_Bytes: (*pith/pithref07.Encoder).Bytes; temporaries: 0:e 1:e 3:b -/
def pithref07_Encoder_Bytes.H : Hints := { cut := fun  | _ => none, loop := fun  | _ => ([], 0), order := fun  | _ => [] }
def pithref07_Encoder_Bytes.F [Pan] (x0 : Value) (w : World) (Q : Value → World → Prop) : Prop :=
 pN Try.prog (oNil x0) w fun x6 w1 =>
 pN Try.prog (oFld 139 x6 0) w1 fun x7 w2 =>
 pN Try.prog (oLoad 29 x7) w2 fun x8 w3 =>
 pN Try.prog (oBi .append #[29, 29] 29 [false, false] [(.slice none 0 0), x8]) w3 fun x9 w4 =>
 Q x9 w4
noncomputable def pithref07_Encoder_Bytes.c : Code := match Try.f34.body with | some c => c | none => .skip
theorem pithref07_Encoder_Bytes.eq [Pan] (x0 : Value) (w : World) (Q : Value → World → Prop) : cw Try.prog pithref07_Encoder_Bytes.H pithref07_Encoder_Bytes.c (endQ Try.prog Try.f34.results.toList Q) (argsE [x0]) w = pithref07_Encoder_Bytes.F x0 w Q := by kernel_rfl
theorem pithref07_Encoder_Bytes.calls [Pan] {x0 : Value} {w : World} {Q : Value → World → Prop} (h : pithref07_Encoder_Bytes.F x0 w Q) : Calls Try.prog 34 #[x0] w (retP Q) :=
  calls_of_cw (H := pithref07_Encoder_Bytes.H) (c := pithref07_Encoder_Bytes.c) (args := [x0]) mixed Try.func34 (by kernel_rfl) (by kernel_rfl) (Nat.le_of_ble_eq_true (by kernel_rfl)) ((pithref07_Encoder_Bytes.eq x0 w Q).mpr h)

/-! pithref07_Encoder_Fork: (*pith/pithref07.Encoder).Fork; temporaries: 0:e 1:e -/
def pithref07_Encoder_Fork.H : Hints := { cut := fun  | _ => none, loop := fun  | _ => ([], 0), order := fun | 1 => [(0, 0), (2, 1), (3, 5), (4, 13), (5, 29), (6, 61), (7, 125), (8, 253), (9, 509), (1, 1021), (10, 1023), (11, 2047), (12, 4095)] | _ => [] }
def pithref07_Encoder_Fork.F [Pan] (x0 : Value) (w : World) (Q : Value → World → Prop) : Prop :=
 pDr w fun w1 =>
 pA Try.prog (oNil x0) fun x6 =>
 pA Try.prog (oFld 139 x6 1) fun x7 =>
 pL Try.prog (oLoad 26 x7) w1 fun x8 =>
 pA Try.prog (oNil x0) fun x10 =>
 pA Try.prog (oFld 139 x10 2) fun x11 =>
 pL Try.prog (oLoad 3 x11) w1 fun x12 =>
 pN Try.prog (oCall 34 [x0]) w1 fun x4 w2 =>
 ((Sem.run Try.prog (oLoad 3 x11) w2 = .ok (.value x12) w2) ∧ (Sem.run Try.prog (oLoad 26 x7) w2 = .ok (.value x8) w2) ∧ True) ∧ (pN Try.prog (oBuild 139 [(0, x4), (1, x8), (2, x12)]) w2 fun x13 w3 =>
 (True) ∧ (pN Try.prog (oBox 139 x13) w3 fun x14 w4 =>
 (True) ∧ (Q x14 w4)))
noncomputable def pithref07_Encoder_Fork.c : Code := match Try.f37.body with | some c => c | none => .skip
theorem pithref07_Encoder_Fork.eq [Pan] (x0 : Value) (w : World) (Q : Value → World → Prop) : cw Try.prog pithref07_Encoder_Fork.H pithref07_Encoder_Fork.c (endQ Try.prog Try.f37.results.toList Q) (argsE [x0]) w = pithref07_Encoder_Fork.F x0 w Q := by kernel_rfl
theorem pithref07_Encoder_Fork.calls [Pan] {x0 : Value} {w : World} {Q : Value → World → Prop} (h : pithref07_Encoder_Fork.F x0 w Q) : Calls Try.prog 37 #[x0] w (retP Q) :=
  calls_of_cw (H := pithref07_Encoder_Fork.H) (c := pithref07_Encoder_Fork.c) (args := [x0]) mixed Try.func37 (by kernel_rfl) (by kernel_rfl) (Nat.le_of_ble_eq_true (by kernel_rfl)) ((pithref07_Encoder_Fork.eq x0 w Q).mpr h)

/-! pithref07_Encoder_cut: (*pith/pithref07.Encoder).cut; temporaries: 0:e 1:b 2:bit 3:e 4:b 5:bit -/
def pithref07_Encoder_cut.H : Hints := { cut := fun | 4 => some ([], 16777152) | _ => none, loop := fun  | _ => ([], 0), order := fun  | _ => [] }
def pithref07_Encoder_cut.F [Pan] (x0 : Value) (x1 : Value) (x2 : Value) (w : World) (Q : Value → World → Prop) : Prop :=
 ∃ I4 : World → Prop,
 (pN Try.prog (oBin .eql 3 (.tmp 6) (.const (.int .i64 0)) x2 (.int .i64 0)) w fun x7 w1 =>
 pIf x7
 (pN Try.prog (oNil x0) w1 fun x10 w2 =>
 pN Try.prog (oFld 139 x10 1) w2 fun x11 w3 =>
 pN Try.prog (oStore 26 x11 x1) w3 fun _ w4 =>
 I4 w4)
 (pN Try.prog (oCall 83 [x0, x1]) w1 fun _ w5 =>
 pN Try.prog (oNil x0) w5 fun x17 w6 =>
 pN Try.prog (oFld 139 x17 1) w6 fun x18 w7 =>
 pN Try.prog (oLoad 26 x18) w7 fun x19 w8 =>
 pN Try.prog (oBin .sub 26 (.tmp 19) (.tmp 20) x19 x1) w8 fun x21 w9 =>
 pN Try.prog (oNil x0) w9 fun x22 w10 =>
 pN Try.prog (oFld 139 x22 1) w10 fun x23 w11 =>
 pN Try.prog (oStore 26 x23 x21) w11 fun _ w12 =>
 I4 w12)) ∧
 ∀ (_j4 : Env) (w13 : World), I4 w13 →
 pN Try.prog (oCall 84 [x0]) w13 fun _ w14 =>
 Q (.tuple #[]) w14
noncomputable def pithref07_Encoder_cut.c : Code := match Try.f80.body with | some c => c | none => .skip
theorem pithref07_Encoder_cut.eq [Pan] (x0 : Value) (x1 : Value) (x2 : Value) (w : World) (Q : Value → World → Prop) : cw Try.prog pithref07_Encoder_cut.H pithref07_Encoder_cut.c (endQ Try.prog Try.f80.results.toList Q) (argsE [x0, x1, x2]) w = pithref07_Encoder_cut.F x0 x1 x2 w Q := by kernel_rfl
theorem pithref07_Encoder_cut.calls [Pan] {x0 : Value} {x1 : Value} {x2 : Value} {w : World} {Q : Value → World → Prop} (h : pithref07_Encoder_cut.F x0 x1 x2 w Q) : Calls Try.prog 80 #[x0, x1, x2] w (retP Q) :=
  calls_of_cw (H := pithref07_Encoder_cut.H) (c := pithref07_Encoder_cut.c) (args := [x0, x1, x2]) mixed Try.func80 (by kernel_rfl) (by kernel_rfl) (Nat.le_of_ble_eq_true (by kernel_rfl)) ((pithref07_Encoder_cut.eq x0 x1 x2 w Q).mpr h)

/-! pithref07_Encoder_adds: (*pith/pithref07.Encoder).adds; temporaries: 0:e 1:v 2:e 3:v 4:c 5:i -/
def pithref07_Encoder_adds.H : Hints := { cut := fun  | _ => none, loop := fun | 2 => ([4, 5], 549755797552) | _ => ([], 0), order := fun  | _ => [] }
def pithref07_Encoder_adds.F [Pan] (x0 : Value) (x1 : Value) (w : World) (Q : Value → World → Prop) : Prop :=
 pN Try.prog (oConv 26 131 x1) w fun x7 w1 =>
 pN Try.prog (oNil x0) w1 fun x9 w2 =>
 pN Try.prog (oFld 139 x9 0) w2 fun x10 w3 =>
 pN Try.prog (oLoad 29 x10) w3 fun x11 w4 =>
 pN Try.prog (oBi .len #[29] 3 [false] [x11]) w4 fun x12 w5 =>
 pN Try.prog (oBin .sub 3 (.tmp 12) (.const (.int .i64 1)) x12 (.int .i64 1)) w5 fun x13 w6 =>
 ∃ (L2 : Value → Value → World → Prop) (m2 : Value → Value → World → Nat),
 L2 x7 x13 w6 ∧
 ∀ (_k2 : Env) (c4l2 : Value) (i5l2 : Value) (w7 : World), L2 c4l2 i5l2 w7 →
 pN Try.prog (oBin .geq 3 (.tmp 14) (.const (.int .i64 0)) i5l2 (.int .i64 0)) w7 fun x15 w8 =>
 pIf x15
 (pN Try.prog (oNil x0) w8 fun x20 w9 =>
 pN Try.prog (oFld 139 x20 0) w9 fun x21 w10 =>
 pN Try.prog (oLoad 29 x21) w10 fun x22 w11 =>
 pN Try.prog (oIdx 29 x22 i5l2) w11 fun x24 w12 =>
 pN Try.prog (oLoad 5 x24) w12 fun x25 w13 =>
 pN Try.prog (oConv 5 131 x25) w13 fun x26 w14 =>
 pN Try.prog (oBin .add 131 (.tmp 18) (.tmp 26) c4l2 x26) w14 fun x27 w15 =>
 pN Try.prog (oNil x0) w15 fun x29 w16 =>
 pN Try.prog (oFld 139 x29 0) w16 fun x30 w17 =>
 pN Try.prog (oLoad 29 x30) w17 fun x31 w18 =>
 pN Try.prog (oBin .rem 131 (.tmp 33) (.const (.int .u64 256)) x27 (.int .u64 256)) w18 fun x34 w19 =>
 pN Try.prog (oConv 131 5 x34) w19 fun x35 w20 =>
 pN Try.prog (oIdx 29 x31 i5l2) w20 fun x36 w21 =>
 pN Try.prog (oStore 5 x36 x35) w21 fun _ w22 =>
 pN Try.prog (oBin .quo 131 (.tmp 37) (.const (.int .u64 256)) x27 (.int .u64 256)) w22 fun x38 w23 =>
 pN Try.prog (oBin .sub 3 (.tmp 16) (.const (.int .i64 1)) i5l2 (.int .i64 1)) w23 fun x17 w24 =>
 (L2 x38 x17 w24 ∧ m2 x38 x17 w24 < m2 c4l2 i5l2 w7))
 (Q (.tuple #[]) w8)
noncomputable def pithref07_Encoder_adds.c : Code := match Try.f83.body with | some c => c | none => .skip
theorem pithref07_Encoder_adds.eq [Pan] (x0 : Value) (x1 : Value) (w : World) (Q : Value → World → Prop) : cw Try.prog pithref07_Encoder_adds.H pithref07_Encoder_adds.c (endQ Try.prog Try.f83.results.toList Q) (argsE [x0, x1]) w = pithref07_Encoder_adds.F x0 x1 w Q := by kernel_rfl
theorem pithref07_Encoder_adds.calls [Pan] {x0 : Value} {x1 : Value} {w : World} {Q : Value → World → Prop} (h : pithref07_Encoder_adds.F x0 x1 w Q) : Calls Try.prog 83 #[x0, x1] w (retP Q) :=
  calls_of_cw (H := pithref07_Encoder_adds.H) (c := pithref07_Encoder_adds.c) (args := [x0, x1]) mixed Try.func83 (by kernel_rfl) (by kernel_rfl) (Nat.le_of_ble_eq_true (by kernel_rfl)) ((pithref07_Encoder_adds.eq x0 x1 w Q).mpr h)

/-! pithref07_Encoder_widens: (*pith/pithref07.Encoder).widens; temporaries: 0:e 1:e -/
def pithref07_Encoder_widens.H : Hints := { cut := fun  | _ => none, loop := fun | 0 => ([], 2147483644) | _ => ([], 0), order := fun  | _ => [] }
def pithref07_Encoder_widens.F [Pan] (x0 : Value) (w : World) (Q : Value → World → Prop) : Prop :=
 ∃ (L0 : World → Prop) (m0 : World → Nat),
 L0 w ∧
 ∀ (_k0 : Env) (w1 : World), L0 w1 →
 pN Try.prog (oNil x0) w1 fun x3 w2 =>
 pN Try.prog (oFld 139 x3 1) w2 fun x4 w3 =>
 pN Try.prog (oLoad 26 x4) w3 fun x5 w4 =>
 pN Try.prog (oBin .lss 26 (.tmp 5) (.const (.int .u32 16777216)) x5 (.int .u32 16777216)) w4 fun x6 w5 =>
 pIf x6
 (pN Try.prog (oNil x0) w5 fun x9 w6 =>
 pN Try.prog (oFld 139 x9 1) w6 fun x10 w7 =>
 pN Try.prog (oLoad 26 x10) w7 fun x11 w8 =>
 pN Try.prog (oBin .mul 26 (.tmp 11) (.const (.int .u32 256)) x11 (.int .u32 256)) w8 fun x12 w9 =>
 pN Try.prog (oNil x0) w9 fun x13 w10 =>
 pN Try.prog (oFld 139 x13 1) w10 fun x14 w11 =>
 pN Try.prog (oStore 26 x14 x12) w11 fun _ w12 =>
 pN Try.prog (oNil x0) w12 fun x17 w13 =>
 pN Try.prog (oFld 139 x17 0) w13 fun x18 w14 =>
 pN Try.prog (oLoad 29 x18) w14 fun x19 w15 =>
 pN Try.prog (oBs 29 1 [(0, (bv 0))]) w15 fun x20 w16 =>
 pN Try.prog (oBi .append #[29, 29] 29 [false, false] [x19, x20]) w16 fun x21 w17 =>
 pN Try.prog (oNil x0) w17 fun x22 w18 =>
 pN Try.prog (oFld 139 x22 0) w18 fun x23 w19 =>
 pN Try.prog (oStore 29 x23 x21) w19 fun _ w20 =>
 pN Try.prog (oNil x0) w20 fun x25 w21 =>
 pN Try.prog (oFld 139 x25 2) w21 fun x26 w22 =>
 pN Try.prog (oLoad 3 x26) w22 fun x27 w23 =>
 pN Try.prog (oBin .add 3 (.tmp 27) (.const (.int .i64 1)) x27 (.int .i64 1)) w23 fun x28 w24 =>
 pN Try.prog (oNil x0) w24 fun x29 w25 =>
 pN Try.prog (oFld 139 x29 2) w25 fun x30 w26 =>
 pN Try.prog (oStore 3 x30 x28) w26 fun _ w27 =>
 (L0 w27 ∧ m0 w27 < m0 w1))
 (Q (.tuple #[]) w5)
noncomputable def pithref07_Encoder_widens.c : Code := match Try.f84.body with | some c => c | none => .skip
theorem pithref07_Encoder_widens.eq [Pan] (x0 : Value) (w : World) (Q : Value → World → Prop) : cw Try.prog pithref07_Encoder_widens.H pithref07_Encoder_widens.c (endQ Try.prog Try.f84.results.toList Q) (argsE [x0]) w = pithref07_Encoder_widens.F x0 w Q := by kernel_rfl
theorem pithref07_Encoder_widens.calls [Pan] {x0 : Value} {w : World} {Q : Value → World → Prop} (h : pithref07_Encoder_widens.F x0 w Q) : Calls Try.prog 84 #[x0] w (retP Q) :=
  calls_of_cw (H := pithref07_Encoder_widens.H) (c := pithref07_Encoder_widens.c) (args := [x0]) mixed Try.func84 (by kernel_rfl) (by kernel_rfl) (Nat.le_of_ble_eq_true (by kernel_rfl)) ((pithref07_Encoder_widens.eq x0 w Q).mpr h)

end Go.Proofs.Ytoejaggkedlfmaa
