/-
  Printed by a program of mine (lift.py): each function of the seat as a plain proposition over values and worlds; that the program meets it.
-/
import Derived.Test.YtoejaggkedlfmaaRows
import Derived.Test.YtoejaggkedlfmaaFacts
namespace Go.Proofs.Ytoejaggkedlfmaa
open Go
set_option linter.unusedSimpArgs false
set_option linter.unnecessarySimpa false
set_option linter.unusedSectionVars false
set_option linter.unusedVariables false
set_option maxRecDepth 100000

/-! pithref08_New: pith/pithref08.New; temporaries: 0:b 1:b 4:c 5:i 6:d -/
def pithref08_New.H : Hints := { cut := fun  | _ => none, loop := fun | 5 => ([4, 5], 4193328) | _ => ([], 0), order := fun  | _ => [] }
def pithref08_New.F [Pan] (x0 : Value) (w : World) (Q : Value → World → Prop) : Prop :=
 pN Try.prog (oBi .len #[29] 3 [false] [x0]) w fun x8 w1 =>
 pN Try.prog (oBin .lss 3 (.tmp 8) (.const (.int .i64 5)) x8 (.int .i64 5)) w1 fun x9 w2 =>
 pIf x9
 (Q (.tuple #[(.pointer none), (.int .i64 1)]) w2)
 (∃ (L5 : Value → Value → World → Prop) (m5 : Value → Value → World → Nat),
 L5 (.int .i64 0) (.int .i64 1) w2 ∧
 ∀ (_k5 : Env) (c4l5 : Value) (i5l5 : Value) (w3 : World), L5 c4l5 i5l5 w3 →
 pN Try.prog (oBin .lss 3 (.tmp 10) (.const (.int .i64 5)) i5l5 (.int .i64 5)) w3 fun x11 w4 =>
 pIf x11
 (pN Try.prog (oBin .mul 3 (.const (.int .i64 256)) (.tmp 14) (.int .i64 256) c4l5) w4 fun x15 w5 =>
 pN Try.prog (oIdx 29 x0 i5l5) w5 fun x18 w6 =>
 pN Try.prog (oLoad 5 x18) w6 fun x19 w7 =>
 pN Try.prog (oConv 5 3 x19) w7 fun x20 w8 =>
 pN Try.prog (oBin .add 3 (.tmp 15) (.tmp 20) x15 x20) w8 fun x21 w9 =>
 pN Try.prog (oBin .add 3 (.tmp 12) (.const (.int .i64 1)) i5l5 (.int .i64 1)) w9 fun x13 w10 =>
 (L5 x21 x13 w10 ∧ m5 x21 x13 w10 < m5 c4l5 i5l5 w3))
 (pN Try.prog (oIdx 29 x0 (.int .i64 0)) w4 fun x23 w11 =>
 pN Try.prog (oLoad 5 x23) w11 fun x24 w12 =>
 pN Try.prog (oBin .neq 5 (.tmp 24) (.const (.int .u8 0)) x24 (bv 0)) w12 fun x25 w13 =>
 pGd (gB x25 false) (pN Try.prog (oMv c4l5) w13) w13 fun x27 w14 =>
 pGd (gB x25 false) (pN Try.prog (oBin .eql 3 (.tmp 27) (.const (.int .i64 4294967295)) x27 (.int .i64 4294967295)) w14) w14 fun x28 w15 =>
 pN Try.prog (oPick x25 (.bool true) x28) w15 fun x29 w16 =>
 pIf x29
 (Q (.tuple #[(.pointer none), (.int .i64 2)]) w16)
 (pN Try.prog (oBuild 151 [(1, (.int .i64 5)), (2, (.int .i64 4294967295)), (3, c4l5)]) w16 fun x31 w17 =>
 pN Try.prog (oBox 151 x31) w17 fun x32 w18 =>
 pN Try.prog (oNil x32) w18 fun x35 w19 =>
 pN Try.prog (oFld 151 x35 0) w19 fun x36 w20 =>
 pN Try.prog (oLoad 29 x36) w20 fun x37 w21 =>
 pN Try.prog (oBi .append #[29, 29] 29 [false, false] [x37, x0]) w21 fun x39 w22 =>
 pN Try.prog (oNil x32) w22 fun x40 w23 =>
 pN Try.prog (oFld 151 x40 0) w23 fun x41 w24 =>
 pN Try.prog (oStore 29 x41 x39) w24 fun _ w25 =>
 Q (.tuple #[x32, (.int .i64 0)]) w25)))
noncomputable def pithref08_New.c : Code := match Try.f43.body with | some c => c | none => .skip
theorem pithref08_New.eq [Pan] (x0 : Value) (w : World) (Q : Value → World → Prop) : cw Try.prog pithref08_New.H pithref08_New.c (endQ Try.prog Try.f43.results.toList Q) (argsE [x0]) w = pithref08_New.F x0 w Q := by kernel_rfl
theorem pithref08_New.calls [Pan] {x0 : Value} {w : World} {Q : Value → World → Prop} (h : pithref08_New.F x0 w Q) : Calls Try.prog 43 #[x0] w (retP Q) :=
  calls_of_cw (H := pithref08_New.H) (c := pithref08_New.c) (args := [x0]) mixed Try.func43 (by kernel_rfl) (by kernel_rfl) (Nat.le_of_ble_eq_true (by kernel_rfl)) ((pithref08_New.eq x0 w Q).mpr h)

/-! pithref08_Decoder_Direct: (*pith/pithref08.Decoder).Direct; temporaries: 0:d 1:n 2:d 3:n 6:f 7:v 8:i 9:ok -/
def pithref08_Decoder_Direct.H : Hints := { cut := fun | 7 => some ([7], 590295810358697263792) | 13 => some ([7], 72057585447993472) | _ => none, loop := fun | 6 => ([7, 8], 590295810358705390512) | _ => ([], 0), order := fun | 10 => [(0, 0), (1, 1), (2, 3), (3, 7), (4, 15), (5, 31), (6, 63), (7, 127), (8, 255)] | 11 => [(0, 0), (1, 1), (2, 3), (3, 7), (4, 15), (5, 31), (6, 63), (7, 127), (8, 255), (9, 511), (10, 1023), (11, 2047), (12, 4095)] | 13 => [(0, 0), (1, 1), (2, 3), (3, 7), (4, 15), (5, 31), (6, 63), (7, 127), (8, 255)] | _ => [] }
def pithref08_Decoder_Direct.F [Pan] (x0 : Value) (x1 : Value) (w : World) (Q : Value → World → Prop) : Prop :=
 pN Try.prog (oBin .lss 3 (.tmp 10) (.const (.int .i64 0)) x1 (.int .i64 0)) w fun x11 w1 =>
 pGd (gB x11 false) (pN Try.prog (oMv x1) w1) w1 fun x13 w2 =>
 pGd (gB x11 false) (pN Try.prog (oBin .gtr 3 (.tmp 13) (.const (.int .i64 32)) x13 (.int .i64 32)) w2) w2 fun x14 w3 =>
 pN Try.prog (oPick x11 (.bool true) x14) w3 fun x15 w4 =>
 pIf x15
 (Q (.tuple #[(.int .u32 0), (.int .i64 7)]) w4)
 (pN Try.prog (oCall 92 [x0]) w4 fun x17 w5 =>
 ∃ (L6 : Value → Value → World → Prop) (m6 : Value → Value → World → Nat),
 L6 (.int .i64 0) (.int .i64 0) w5 ∧
 ∀ (_k6 : Env) (v7l6 : Value) (i8l6 : Value) (w6 : World), L6 v7l6 i8l6 w6 →
 pN Try.prog (oBin .lss 3 (.tmp 18) (.tmp 19) i8l6 x1) w6 fun x20 w7 =>
 pIf x20
 (∃ I7 : Value → World → Prop,
 (pN Try.prog (oNil x17) w7 fun x25 w8 =>
 pN Try.prog (oFld 151 x25 2) w8 fun x26 w9 =>
 pN Try.prog (oLoad 3 x26) w9 fun x27 w10 =>
 pN Try.prog (oBin .quo 3 (.tmp 27) (.const (.int .i64 2)) x27 (.int .i64 2)) w10 fun x28 w11 =>
 pN Try.prog (oNil x17) w11 fun x29 w12 =>
 pN Try.prog (oFld 151 x29 2) w12 fun x30 w13 =>
 pN Try.prog (oStore 3 x30 x28) w13 fun _ w14 =>
 pN Try.prog (oBin .mul 3 (.const (.int .i64 2)) (.tmp 31) (.int .i64 2) v7l6) w14 fun x32 w15 =>
 ∃ I13 : Value → World → Prop,
 (pDr w15 fun w16 =>
 pA Try.prog (oNil x17) fun x34 =>
 pA Try.prog (oFld 151 x34 3) fun x35 =>
 pL Try.prog (oLoad 3 x35) w16 fun x36 =>
 pA Try.prog (oNil x17) fun x38 =>
 pA Try.prog (oFld 151 x38 2) fun x39 =>
 pL Try.prog (oLoad 3 x39) w16 fun x40 =>
 pA Try.prog (oBin .geq 3 (.tmp 36) (.tmp 40) x36 x40) fun x41 =>
 pIf x41
 (pDr w16 fun w17 =>
 pA Try.prog (oNil x17) fun x44 =>
 pA Try.prog (oFld 151 x44 3) fun x45 =>
 pL Try.prog (oLoad 3 x45) w17 fun x46 =>
 pA Try.prog (oNil x17) fun x48 =>
 pA Try.prog (oFld 151 x48 2) fun x49 =>
 pL Try.prog (oLoad 3 x49) w17 fun x50 =>
 pA Try.prog (oBin .sub 3 (.tmp 46) (.tmp 50) x46 x50) fun x51 =>
 pA Try.prog (oNil x17) fun x52 =>
 pA Try.prog (oFld 151 x52 3) fun x53 =>
 pN Try.prog (oStore 3 x53 x51) w17 fun _ w18 =>
 (True) ∧ (pN Try.prog (oBin .add 3 (.tmp 54) (.const (.int .i64 1)) x32 (.int .i64 1)) w18 fun x55 w19 =>
 I13 x55 w19))
 (I13 x32 w16)) ∧
 ∀ (_j13 : Env) (v7c13 : Value) (w20 : World), I13 v7c13 w20 →
 pDr w20 fun w21 =>
 pA Try.prog (oNil x17) fun x57 =>
 pA Try.prog (oFld 151 x57 3) fun x58 =>
 pL Try.prog (oLoad 3 x58) w21 fun x59 =>
 pA Try.prog (oNil x17) fun x61 =>
 pA Try.prog (oFld 151 x61 2) fun x62 =>
 pL Try.prog (oLoad 3 x62) w21 fun x63 =>
 pA Try.prog (oBin .geq 3 (.tmp 59) (.tmp 63) x59 x63) fun x64 =>
 pIf x64
 (Q (.tuple #[(.int .u32 0), (.int .i64 2)]) w21)
 (pN Try.prog (oCall 93 [x17]) w21 fun x66 w22 =>
 pN Try.prog (oUn .not x66) w22 fun x68 w23 =>
 pIf x68
 (Q (.tuple #[(.int .u32 0), (.int .i64 1)]) w23)
 (I7 v7c13 w23))) ∧
 ∀ (_j7 : Env) (v7c7 : Value) (w24 : World), I7 v7c7 w24 →
 pN Try.prog (oBin .add 3 (.tmp 21) (.const (.int .i64 1)) i8l6 (.int .i64 1)) w24 fun x22 w25 =>
 (L6 v7c7 x22 w25 ∧ m6 v7c7 x22 w25 < m6 v7l6 i8l6 w6))
 (pN Try.prog (oNil x17) w7 fun x71 w26 =>
 pN Try.prog (oLoad 151 x71) w26 fun x72 w27 =>
 pN Try.prog (oNil x0) w27 fun x73 w28 =>
 pN Try.prog (oStore 151 x73 x72) w28 fun _ w29 =>
 pN Try.prog (oConv 3 26 v7l6) w29 fun x75 w30 =>
 Q (.tuple #[x75, (.int .i64 0)]) w30))
noncomputable def pithref08_Decoder_Direct.c : Code := match Try.f48.body with | some c => c | none => .skip
theorem pithref08_Decoder_Direct.eq [Pan] (x0 : Value) (x1 : Value) (w : World) (Q : Value → World → Prop) : cw Try.prog pithref08_Decoder_Direct.H pithref08_Decoder_Direct.c (endQ Try.prog Try.f48.results.toList Q) (argsE [x0, x1]) w = pithref08_Decoder_Direct.F x0 x1 w Q := by kernel_rfl
theorem pithref08_Decoder_Direct.calls [Pan] {x0 : Value} {x1 : Value} {w : World} {Q : Value → World → Prop} (h : pithref08_Decoder_Direct.F x0 x1 w Q) : Calls Try.prog 48 #[x0, x1] w (retP Q) :=
  calls_of_cw (H := pithref08_Decoder_Direct.H) (c := pithref08_Decoder_Direct.c) (args := [x0, x1]) mixed Try.func48 (by kernel_rfl) (by kernel_rfl) (Nat.le_of_ble_eq_true (by kernel_rfl)) ((pithref08_Decoder_Direct.eq x0 x1 w Q).mpr h)

/-! pithref08_Decoder_Bit: (*pith/pithref08.Decoder).Bit; temporaries: 0:d 1:s 2:i 3:d 4:s 5:i 8:p 9:e 10:cut 11:f 12:bit 13:ok -/
def pithref08_Decoder_Bit.H : Hints := { cut := fun | 12 => some ([12], 1152921500311883776) | _ => none, loop := fun  | _ => ([], 0), order := fun  | _ => [] }
def pithref08_Decoder_Bit.F [Pan] (x0 : Value) (x1 : Value) (x2 : Value) (w : World) (Q : Value → World → Prop) : Prop :=
 pN Try.prog (oCall 79 [x1, x2]) w fun x17 w1 =>
 pN Try.prog (oExt x17 0) w1 fun x18 w2 =>
 pN Try.prog (oExt x17 1) w2 fun x19 w3 =>
 pN Try.prog (oBin .neq 3 (.tmp 20) (.const (.int .i64 0)) x19 (.int .i64 0)) w3 fun x21 w4 =>
 pIf x21
 (Q (.tuple #[(.int .i64 0), (.int .i64 7)]) w4)
 (pN Try.prog (oNil x0) w4 fun x23 w5 =>
 pN Try.prog (oFld 151 x23 2) w5 fun x24 w6 =>
 pN Try.prog (oLoad 3 x24) w6 fun x25 w7 =>
 pN Try.prog (oConv 3 26 x25) w7 fun x26 w8 =>
 pN Try.prog (oCall 81 [x26, x18]) w8 fun x28 w9 =>
 pN Try.prog (oConv 26 3 x28) w9 fun x29 w10 =>
 pN Try.prog (oCall 92 [x0]) w10 fun x31 w11 =>
 ∃ I12 : Value → World → Prop,
 (pN Try.prog (oNil x31) w11 fun x33 w12 =>
 pN Try.prog (oFld 151 x33 3) w12 fun x34 w13 =>
 pN Try.prog (oLoad 3 x34) w13 fun x35 w14 =>
 pN Try.prog (oBin .lss 3 (.tmp 35) (.tmp 36) x35 x29) w14 fun x37 w15 =>
 pIf x37
 (pN Try.prog (oNil x31) w15 fun x40 w16 =>
 pN Try.prog (oFld 151 x40 2) w16 fun x41 w17 =>
 pN Try.prog (oStore 3 x41 x29) w17 fun _ w18 =>
 I12 (.int .i64 0) w18)
 (pN Try.prog (oNil x31) w15 fun x44 w19 =>
 pN Try.prog (oFld 151 x44 3) w19 fun x45 w20 =>
 pN Try.prog (oLoad 3 x45) w20 fun x46 w21 =>
 pN Try.prog (oBin .sub 3 (.tmp 46) (.tmp 47) x46 x29) w21 fun x48 w22 =>
 pN Try.prog (oNil x31) w22 fun x49 w23 =>
 pN Try.prog (oFld 151 x49 3) w23 fun x50 w24 =>
 pN Try.prog (oStore 3 x50 x48) w24 fun _ w25 =>
 pN Try.prog (oNil x31) w25 fun x53 w26 =>
 pN Try.prog (oFld 151 x53 2) w26 fun x54 w27 =>
 pN Try.prog (oLoad 3 x54) w27 fun x55 w28 =>
 pN Try.prog (oBin .sub 3 (.tmp 55) (.tmp 56) x55 x29) w28 fun x57 w29 =>
 pN Try.prog (oNil x31) w29 fun x58 w30 =>
 pN Try.prog (oFld 151 x58 2) w30 fun x59 w31 =>
 pN Try.prog (oStore 3 x59 x57) w31 fun _ w32 =>
 I12 (.int .i64 1) w32)) ∧
 ∀ (_j12 : Env) (bit12c12 : Value) (w33 : World), I12 bit12c12 w33 →
 pN Try.prog (oCall 93 [x31]) w33 fun x61 w34 =>
 pN Try.prog (oUn .not x61) w34 fun x63 w35 =>
 pIf x63
 (Q (.tuple #[(.int .i64 0), (.int .i64 1)]) w35)
 (pN Try.prog (oNil x31) w35 fun x66 w36 =>
 pN Try.prog (oLoad 151 x66) w36 fun x67 w37 =>
 pN Try.prog (oNil x0) w37 fun x68 w38 =>
 pN Try.prog (oStore 151 x68 x67) w38 fun _ w39 =>
 pN Try.prog (oCall 82 [x1, x2, bit12c12]) w39 fun _ w40 =>
 Q (.tuple #[bit12c12, (.int .i64 0)]) w40))
noncomputable def pithref08_Decoder_Bit.c : Code := match Try.f50.body with | some c => c | none => .skip
theorem pithref08_Decoder_Bit.eq [Pan] (x0 : Value) (x1 : Value) (x2 : Value) (w : World) (Q : Value → World → Prop) : cw Try.prog pithref08_Decoder_Bit.H pithref08_Decoder_Bit.c (endQ Try.prog Try.f50.results.toList Q) (argsE [x0, x1, x2]) w = pithref08_Decoder_Bit.F x0 x1 x2 w Q := by kernel_rfl
theorem pithref08_Decoder_Bit.calls [Pan] {x0 : Value} {x1 : Value} {x2 : Value} {w : World} {Q : Value → World → Prop} (h : pithref08_Decoder_Bit.F x0 x1 x2 w Q) : Calls Try.prog 50 #[x0, x1, x2] w (retP Q) :=
  calls_of_cw (H := pithref08_Decoder_Bit.H) (c := pithref08_Decoder_Bit.c) (args := [x0, x1, x2]) mixed Try.func50 (by kernel_rfl) (by kernel_rfl) (Nat.le_of_ble_eq_true (by kernel_rfl)) ((pithref08_Decoder_Bit.eq x0 x1 x2 w Q).mpr h)

/-! pithref08_Decoder_Used: (*pith/pithref08.Decoder).Used; temporaries: 0:d 1:d -/
def pithref08_Decoder_Used.H : Hints := { cut := fun  | _ => none, loop := fun  | _ => ([], 0), order := fun  | _ => [] }
def pithref08_Decoder_Used.F [Pan] (x0 : Value) (w : World) (Q : Value → World → Prop) : Prop :=
 pN Try.prog (oNil x0) w fun x4 w1 =>
 pN Try.prog (oFld 151 x4 1) w1 fun x5 w2 =>
 pN Try.prog (oLoad 3 x5) w2 fun x6 w3 =>
 Q x6 w3
noncomputable def pithref08_Decoder_Used.c : Code := match Try.f52.body with | some c => c | none => .skip
theorem pithref08_Decoder_Used.eq [Pan] (x0 : Value) (w : World) (Q : Value → World → Prop) : cw Try.prog pithref08_Decoder_Used.H pithref08_Decoder_Used.c (endQ Try.prog Try.f52.results.toList Q) (argsE [x0]) w = pithref08_Decoder_Used.F x0 w Q := by kernel_rfl
theorem pithref08_Decoder_Used.calls [Pan] {x0 : Value} {w : World} {Q : Value → World → Prop} (h : pithref08_Decoder_Used.F x0 w Q) : Calls Try.prog 52 #[x0] w (retP Q) :=
  calls_of_cw (H := pithref08_Decoder_Used.H) (c := pithref08_Decoder_Used.c) (args := [x0]) mixed Try.func52 (by kernel_rfl) (by kernel_rfl) (Nat.le_of_ble_eq_true (by kernel_rfl)) ((pithref08_Decoder_Used.eq x0 w Q).mpr h)

/-! pithref08_Decoder_Done: (*pith/pithref08.Decoder).Done; temporaries: 0:d 1:d -/
def pithref08_Decoder_Done.H : Hints := { cut := fun  | _ => none, loop := fun  | _ => ([], 0), order := fun | 1 => [(0, 0), (1, 1), (2, 3), (3, 7), (4, 15), (5, 31), (6, 63), (7, 127), (8, 255), (9, 511), (10, 1023), (11, 2047), (12, 4095), (13, 8191), (14, 16383), (15, 32767), (16, 65535), (17, 131071)] | _ => [] }
def pithref08_Decoder_Done.F [Pan] (x0 : Value) (w : World) (Q : Value → World → Prop) : Prop :=
 pDr w fun w1 =>
 pA Try.prog (oNil x0) fun x4 =>
 pA Try.prog (oFld 151 x4 1) fun x5 =>
 pL Try.prog (oLoad 3 x5) w1 fun x6 =>
 pA Try.prog (oNil x0) fun x8 =>
 pA Try.prog (oFld 151 x8 0) fun x9 =>
 pL Try.prog (oLoad 29 x9) w1 fun x10 =>
 pA Try.prog (oBi .len #[29] 3 [false] [x10]) fun x11 =>
 pA Try.prog (oBin .eql 3 (.tmp 6) (.tmp 11) x6 x11) fun x12 =>
 gA (gB x12 true) (pA Try.prog (oMv x0)) fun x14 =>
 gA (gB x12 true) (pA Try.prog (oNil x14)) fun x15 =>
 gA (gB x12 true) (pA Try.prog (oFld 151 x15 3)) fun x16 =>
 gA (gB x12 true) (pL Try.prog (oLoad 3 x16) w1) fun x17 =>
 gA (gB x12 true) (pA Try.prog (oBin .eql 3 (.tmp 17) (.const (.int .i64 0)) x17 (.int .i64 0))) fun x18 =>
 pA Try.prog (oPick x12 x18 (.bool false)) fun x19 =>
 Q x19 w1
noncomputable def pithref08_Decoder_Done.c : Code := match Try.f54.body with | some c => c | none => .skip
theorem pithref08_Decoder_Done.eq [Pan] (x0 : Value) (w : World) (Q : Value → World → Prop) : cw Try.prog pithref08_Decoder_Done.H pithref08_Decoder_Done.c (endQ Try.prog Try.f54.results.toList Q) (argsE [x0]) w = pithref08_Decoder_Done.F x0 w Q := by kernel_rfl
theorem pithref08_Decoder_Done.calls [Pan] {x0 : Value} {w : World} {Q : Value → World → Prop} (h : pithref08_Decoder_Done.F x0 w Q) : Calls Try.prog 54 #[x0] w (retP Q) :=
  calls_of_cw (H := pithref08_Decoder_Done.H) (c := pithref08_Decoder_Done.c) (args := [x0]) mixed Try.func54 (by kernel_rfl) (by kernel_rfl) (Nat.le_of_ble_eq_true (by kernel_rfl)) ((pithref08_Decoder_Done.eq x0 w Q).mpr h)

/-! pithref08_Decoder_Fork: (*pith/pithref08.Decoder).Fork; temporaries: 0:d 1:d 3:f -/
def pithref08_Decoder_Fork.H : Hints := { cut := fun  | _ => none, loop := fun  | _ => ([], 0), order := fun  | _ => [] }
def pithref08_Decoder_Fork.F [Pan] (x0 : Value) (w : World) (Q : Value → World → Prop) : Prop :=
 pN Try.prog (oNil x0) w fun x5 w1 =>
 pN Try.prog (oLoad 151 x5) w1 fun x6 w2 =>
 pN Try.prog (oAlloc 151) w2 fun x3 w3 =>
 pN Try.prog (oStore 151 x3 x6) w3 fun _ w4 =>
 Q x3 w4
noncomputable def pithref08_Decoder_Fork.c : Code := match Try.f92.body with | some c => c | none => .skip
theorem pithref08_Decoder_Fork.eq [Pan] (x0 : Value) (w : World) (Q : Value → World → Prop) : cw Try.prog pithref08_Decoder_Fork.H pithref08_Decoder_Fork.c (endQ Try.prog Try.f92.results.toList Q) (argsE [x0]) w = pithref08_Decoder_Fork.F x0 w Q := by kernel_rfl
theorem pithref08_Decoder_Fork.calls [Pan] {x0 : Value} {w : World} {Q : Value → World → Prop} (h : pithref08_Decoder_Fork.F x0 w Q) : Calls Try.prog 92 #[x0] w (retP Q) :=
  calls_of_cw (H := pithref08_Decoder_Fork.H) (c := pithref08_Decoder_Fork.c) (args := [x0]) mixed Try.func92 (by kernel_rfl) (by kernel_rfl) (Nat.le_of_ble_eq_true (by kernel_rfl)) ((pithref08_Decoder_Fork.eq x0 w Q).mpr h)

/-! pithref08_Decoder_widen: (*pith/pithref08.Decoder).widen; temporaries: 0:d 1:d -/
def pithref08_Decoder_widen.H : Hints := { cut := fun  | _ => none, loop := fun  | _ => ([], 0), order := fun | 3 => [(0, 0), (1, 1), (2, 3), (3, 7), (4, 15), (5, 31), (6, 63), (7, 127), (8, 255), (9, 511)] | 6 => [(0, 0), (1, 1), (2, 3), (3, 7), (4, 15), (5, 31), (6, 63), (7, 127), (8, 255), (9, 511), (10, 1023), (11, 2047), (12, 4095), (13, 8191), (14, 16383), (15, 32767), (16, 65535), (17, 131071), (18, 262143), (19, 524287), (20, 1048575)] | _ => [] }
def pithref08_Decoder_widen.F [Pan] (x0 : Value) (w : World) (Q : Value → World → Prop) : Prop :=
 pN Try.prog (oNil x0) w fun x4 w1 =>
 pN Try.prog (oFld 151 x4 2) w1 fun x5 w2 =>
 pN Try.prog (oLoad 3 x5) w2 fun x6 w3 =>
 pN Try.prog (oBin .geq 3 (.tmp 6) (.const (.int .i64 16777216)) x6 (.int .i64 16777216)) w3 fun x7 w4 =>
 pIf x7
 (Q (.bool true) w4)
 (pDr w4 fun w5 =>
 pA Try.prog (oNil x0) fun x9 =>
 pA Try.prog (oFld 151 x9 1) fun x10 =>
 pL Try.prog (oLoad 3 x10) w5 fun x11 =>
 pA Try.prog (oNil x0) fun x13 =>
 pA Try.prog (oFld 151 x13 0) fun x14 =>
 pL Try.prog (oLoad 29 x14) w5 fun x15 =>
 pA Try.prog (oBi .len #[29] 3 [false] [x15]) fun x16 =>
 pA Try.prog (oBin .eql 3 (.tmp 11) (.tmp 16) x11 x16) fun x17 =>
 pIf x17
 (Q (.bool false) w5)
 (pN Try.prog (oNil x0) w5 fun x20 w6 =>
 pN Try.prog (oFld 151 x20 2) w6 fun x21 w7 =>
 pN Try.prog (oLoad 3 x21) w7 fun x22 w8 =>
 pN Try.prog (oBin .mul 3 (.const (.int .i64 256)) (.tmp 22) (.int .i64 256) x22) w8 fun x23 w9 =>
 pN Try.prog (oNil x0) w9 fun x24 w10 =>
 pN Try.prog (oFld 151 x24 2) w10 fun x25 w11 =>
 pN Try.prog (oStore 3 x25 x23) w11 fun _ w12 =>
 pDr w12 fun w13 =>
 pA Try.prog (oNil x0) fun x28 =>
 pA Try.prog (oFld 151 x28 3) fun x29 =>
 pL Try.prog (oLoad 3 x29) w13 fun x30 =>
 pA Try.prog (oBin .mul 3 (.const (.int .i64 256)) (.tmp 30) (.int .i64 256) x30) fun x31 =>
 pA Try.prog (oNil x0) fun x33 =>
 pA Try.prog (oFld 151 x33 0) fun x34 =>
 pL Try.prog (oLoad 29 x34) w13 fun x35 =>
 pA Try.prog (oNil x0) fun x37 =>
 pA Try.prog (oFld 151 x37 1) fun x38 =>
 pL Try.prog (oLoad 3 x38) w13 fun x39 =>
 pA Try.prog (oIdx 29 x35 x39) fun x40 =>
 pL Try.prog (oLoad 5 x40) w13 fun x41 =>
 pL Try.prog (oConv 5 3 x41) w13 fun x42 =>
 pA Try.prog (oBin .add 3 (.tmp 31) (.tmp 42) x31 x42) fun x43 =>
 pA Try.prog (oNil x0) fun x44 =>
 pA Try.prog (oFld 151 x44 3) fun x45 =>
 pN Try.prog (oStore 3 x45 x43) w13 fun _ w14 =>
 (True) ∧ (pN Try.prog (oNil x0) w14 fun x47 w15 =>
 pN Try.prog (oFld 151 x47 1) w15 fun x48 w16 =>
 pN Try.prog (oLoad 3 x48) w16 fun x49 w17 =>
 pN Try.prog (oBin .add 3 (.tmp 49) (.const (.int .i64 1)) x49 (.int .i64 1)) w17 fun x50 w18 =>
 pN Try.prog (oNil x0) w18 fun x51 w19 =>
 pN Try.prog (oFld 151 x51 1) w19 fun x52 w20 =>
 pN Try.prog (oStore 3 x52 x50) w20 fun _ w21 =>
 Q (.bool true) w21)))
noncomputable def pithref08_Decoder_widen.c : Code := match Try.f93.body with | some c => c | none => .skip
theorem pithref08_Decoder_widen.eq [Pan] (x0 : Value) (w : World) (Q : Value → World → Prop) : cw Try.prog pithref08_Decoder_widen.H pithref08_Decoder_widen.c (endQ Try.prog Try.f93.results.toList Q) (argsE [x0]) w = pithref08_Decoder_widen.F x0 w Q := by kernel_rfl
theorem pithref08_Decoder_widen.calls [Pan] {x0 : Value} {w : World} {Q : Value → World → Prop} (h : pithref08_Decoder_widen.F x0 w Q) : Calls Try.prog 93 #[x0] w (retP Q) :=
  calls_of_cw (H := pithref08_Decoder_widen.H) (c := pithref08_Decoder_widen.c) (args := [x0]) mixed Try.func93 (by kernel_rfl) (by kernel_rfl) (Nat.le_of_ble_eq_true (by kernel_rfl)) ((pithref08_Decoder_widen.eq x0 w Q).mpr h)

end Go.Proofs.Ytoejaggkedlfmaa
