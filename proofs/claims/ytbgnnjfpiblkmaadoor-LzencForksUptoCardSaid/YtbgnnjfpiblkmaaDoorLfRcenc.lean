/-
  Printed by a program of mine (lift.py): each function of the seat as a plain proposition over values and worlds; that the program meets it.
-/
import Derived.Test.YtbgnnjfpiblkmaaDoorRows
import Derived.Test.YtbgnnjfpiblkmaaDoorFacts
namespace Go.Proofs.YtbgnnjfpiblkmaaDoor
open Go
set_option linter.unusedSimpArgs false
set_option linter.unnecessarySimpa false
set_option linter.unusedSectionVars false
set_option linter.unusedVariables false
set_option maxRecDepth 100000

/-! rcenc_New: pith/rcenc.New; temporaries:  -/
def rcenc_New.H : Hints := { cut := fun  | _ => none, loop := fun  | _ => ([], 0), order := fun  | _ => [] }
def rcenc_New.F [Pan]  (w : World) (Q : Value → World → Prop) : Prop :=
 pN Tryd.prog (oBuild 81 [(1, (.int .u32 4294967295))]) w fun x1 w1 =>
 pN Tryd.prog (oBox 81 x1) w1 fun x2 w2 =>
 Q x2 w2
noncomputable def rcenc_New.c : Code := match Tryd.f18.body with | some c => c | none => .skip
theorem rcenc_New.eq [Pan]  (w : World) (Q : Value → World → Prop) : cw Tryd.prog rcenc_New.H rcenc_New.c (endQ Tryd.prog Tryd.f18.results.toList Q) (argsE []) w = rcenc_New.F  w Q := by kernel_rfl
theorem rcenc_New.calls [Pan]  {w : World} {Q : Value → World → Prop} (h : rcenc_New.F  w Q) : Calls Tryd.prog 18 #[] w (retP Q) :=
  calls_of_cw (H := rcenc_New.H) (c := rcenc_New.c) (args := []) mixed Tryd.func18 (by kernel_rfl) (by kernel_rfl) (Nat.le_of_ble_eq_true (by kernel_rfl)) ((rcenc_New.eq  w Q).mpr h)

/-! rcenc_Encoder_Size: (*pith/rcenc.Encoder).Size; temporaries: 0:e 1:e -/
def rcenc_Encoder_Size.H : Hints := { cut := fun  | _ => none, loop := fun  | _ => ([], 0), order := fun | 1 => [(0, 0), (1, 1), (2, 3), (3, 7), (4, 15), (5, 31), (6, 63), (7, 127), (8, 255), (9, 511), (10, 1023), (11, 2047), (12, 4095)] | _ => [] }
def rcenc_Encoder_Size.F [Pan] (x0 : Value) (w : World) (Q : Value → World → Prop) : Prop :=
 pDr w fun w1 =>
 pA Tryd.prog (oNil x0) fun x4 =>
 pA Tryd.prog (oFld 81 x4 4) fun x5 =>
 pL Tryd.prog (oLoad 38 x5) w1 fun x6 =>
 pA Tryd.prog (oBi .len #[38] 3 [false] [x6]) fun x7 =>
 pA Tryd.prog (oBin .add 3 (.tmp 7) (.const (.int .i64 1)) x7 (.int .i64 1)) fun x8 =>
 pA Tryd.prog (oNil x0) fun x10 =>
 pA Tryd.prog (oFld 81 x10 3) fun x11 =>
 pL Tryd.prog (oLoad 3 x11) w1 fun x12 =>
 pA Tryd.prog (oBin .add 3 (.tmp 8) (.tmp 12) x8 x12) fun x13 =>
 pA Tryd.prog (oBin .add 3 (.tmp 13) (.const (.int .i64 4)) x13 (.int .i64 4)) fun x14 =>
 Q x14 w1
noncomputable def rcenc_Encoder_Size.c : Code := match Tryd.f19.body with | some c => c | none => .skip
theorem rcenc_Encoder_Size.eq [Pan] (x0 : Value) (w : World) (Q : Value → World → Prop) : cw Tryd.prog rcenc_Encoder_Size.H rcenc_Encoder_Size.c (endQ Tryd.prog Tryd.f19.results.toList Q) (argsE [x0]) w = rcenc_Encoder_Size.F x0 w Q := by kernel_rfl
theorem rcenc_Encoder_Size.calls [Pan] {x0 : Value} {w : World} {Q : Value → World → Prop} (h : rcenc_Encoder_Size.F x0 w Q) : Calls Tryd.prog 19 #[x0] w (retP Q) :=
  calls_of_cw (H := rcenc_Encoder_Size.H) (c := rcenc_Encoder_Size.c) (args := [x0]) mixed Tryd.func19 (by kernel_rfl) (by kernel_rfl) (Nat.le_of_ble_eq_true (by kernel_rfl)) ((rcenc_Encoder_Size.eq x0 w Q).mpr h)

/-! rcenc_Encoder_Bytes: (*pith/rcenc.Encoder).Bytes; temporaries: 0:e 1:e 3:f -/
def rcenc_Encoder_Bytes.H : Hints := { cut := fun  | _ => none, loop := fun | 3 => ([6], 1984) | _ => ([], 0), order := fun  | _ => [] }
def rcenc_Encoder_Bytes.F [Pan] (x0 : Value) (w : World) (Q : Value → World → Prop) : Prop :=
 pN Tryd.prog (oCall 26 [x0]) w fun x5 w1 =>
 ∃ (L3 : Value → World → Prop) (m3 : Value → World → Nat),
 L3 (.int .i64 0) w1 ∧
 ∀ (_k3 : Env) (v6l3 : Value) (w2 : World), L3 v6l3 w2 →
 pN Tryd.prog (oBin .lss 3 (.tmp 6) (.const (.int .i64 5)) v6l3 (.int .i64 5)) w2 fun x7 w3 =>
 pIf x7
 (pN Tryd.prog (oCall 40 [x5]) w3 fun _ w4 =>
 pN Tryd.prog (oBin .add 3 (.tmp 6) (.const (.int .i64 1)) v6l3 (.int .i64 1)) w4 fun x10 w5 =>
 (L3 x10 w5 ∧ m3 x10 w5 < m3 v6l3 w2))
 (pN Tryd.prog (oNil x5) w3 fun x12 w6 =>
 pN Tryd.prog (oFld 81 x12 4) w6 fun x13 w7 =>
 pN Tryd.prog (oLoad 38 x13) w7 fun x14 w8 =>
 Q x14 w8)
noncomputable def rcenc_Encoder_Bytes.c : Code := match Tryd.f23.body with | some c => c | none => .skip
theorem rcenc_Encoder_Bytes.eq [Pan] (x0 : Value) (w : World) (Q : Value → World → Prop) : cw Tryd.prog rcenc_Encoder_Bytes.H rcenc_Encoder_Bytes.c (endQ Tryd.prog Tryd.f23.results.toList Q) (argsE [x0]) w = rcenc_Encoder_Bytes.F x0 w Q := by kernel_rfl
theorem rcenc_Encoder_Bytes.calls [Pan] {x0 : Value} {w : World} {Q : Value → World → Prop} (h : rcenc_Encoder_Bytes.F x0 w Q) : Calls Tryd.prog 23 #[x0] w (retP Q) :=
  calls_of_cw (H := rcenc_Encoder_Bytes.H) (c := rcenc_Encoder_Bytes.c) (args := [x0]) mixed Tryd.func23 (by kernel_rfl) (by kernel_rfl) (Nat.le_of_ble_eq_true (by kernel_rfl)) ((rcenc_Encoder_Bytes.eq x0 w Q).mpr h)

/-! rcenc_Encoder_Fork: (*pith/rcenc.Encoder).Fork; temporaries: 0:e 1:e 3:f -/
def rcenc_Encoder_Fork.H : Hints := { cut := fun  | _ => none, loop := fun  | _ => ([], 0), order := fun | 2 => [(0, 0), (1, 1), (2, 3), (3, 7), (4, 15), (5, 31), (6, 63), (7, 127), (8, 255), (9, 511), (10, 1023), (12, 2047), (13, 6143), (14, 14335), (15, 30719), (11, 63487), (16, 65535), (17, 131071), (18, 262143)] | _ => [] }
def rcenc_Encoder_Fork.F [Pan] (x0 : Value) (w : World) (Q : Value → World → Prop) : Prop :=
 pN Tryd.prog (oNil x0) w fun x5 w1 =>
 pN Tryd.prog (oLoad 81 x5) w1 fun x6 w2 =>
 pN Tryd.prog (oAlloc 81) w2 fun x3 w3 =>
 pN Tryd.prog (oStore 81 x3 x6) w3 fun _ w4 =>
 pDr w4 fun w5 =>
 pA Tryd.prog (oNil x0) fun x8 =>
 pA Tryd.prog (oFld 81 x8 4) fun x9 =>
 pL Tryd.prog (oLoad 38 x9) w5 fun x10 =>
 pA Tryd.prog (oBi .len #[38] 3 [false] [x10]) fun x11 =>
 pA Tryd.prog (oNil x0) fun x13 =>
 pA Tryd.prog (oFld 81 x13 3) fun x14 =>
 pL Tryd.prog (oLoad 3 x14) w5 fun x15 =>
 pA Tryd.prog (oBin .add 3 (.tmp 11) (.tmp 15) x11 x15) fun x16 =>
 pA Tryd.prog (oBin .add 3 (.tmp 16) (.const (.int .i64 8)) x16 (.int .i64 8)) fun x17 =>
 pA Tryd.prog (oNil x0) fun x20 =>
 pA Tryd.prog (oFld 81 x20 4) fun x21 =>
 pL Tryd.prog (oLoad 38 x21) w5 fun x22 =>
 pN Tryd.prog (oMk 38 (.int .i64 0) x17) w5 fun x18 w6 =>
 ((Sem.run Tryd.prog (oLoad 38 x21) w6 = .ok (.value x22) w6) ∧ True) ∧ (pN Tryd.prog (oBi .append #[38, 38] 38 [false, false] [x18, x22]) w6 fun x23 w7 =>
 (True) ∧ (pA Tryd.prog (oFld 81 x3 4) fun x24 =>
 pN Tryd.prog (oStore 38 x24 x23) w7 fun _ w8 =>
 (True) ∧ (Q x3 w8)))
noncomputable def rcenc_Encoder_Fork.c : Code := match Tryd.f26.body with | some c => c | none => .skip
theorem rcenc_Encoder_Fork.eq [Pan] (x0 : Value) (w : World) (Q : Value → World → Prop) : cw Tryd.prog rcenc_Encoder_Fork.H rcenc_Encoder_Fork.c (endQ Tryd.prog Tryd.f26.results.toList Q) (argsE [x0]) w = rcenc_Encoder_Fork.F x0 w Q := by kernel_rfl
theorem rcenc_Encoder_Fork.calls [Pan] {x0 : Value} {w : World} {Q : Value → World → Prop} (h : rcenc_Encoder_Fork.F x0 w Q) : Calls Tryd.prog 26 #[x0] w (retP Q) :=
  calls_of_cw (H := rcenc_Encoder_Fork.H) (c := rcenc_Encoder_Fork.c) (args := [x0]) mixed Tryd.func26 (by kernel_rfl) (by kernel_rfl) (Nat.le_of_ble_eq_true (by kernel_rfl)) ((rcenc_Encoder_Fork.eq x0 w Q).mpr h)

/-! rcenc_Encoder_shift: (*pith/rcenc.Encoder).shift; temporaries: 0:e 1:e 2:carry -/
def rcenc_Encoder_shift.H : Hints := { cut := fun | 8 => some ([], 37778931862957161709564) | _ => none, loop := fun | 3 => ([], 576460683583946752) | _ => ([], 0), order := fun | 2 => [(0, 0), (1, 1), (2, 3), (3, 7), (4, 15), (5, 31), (6, 63), (7, 127), (8, 255), (9, 511), (10, 1023), (11, 2047), (12, 4095), (13, 8191), (14, 16383), (15, 32767)] | _ => [] }
def rcenc_Encoder_shift.F [Pan] (x0 : Value) (w : World) (Q : Value → World → Prop) : Prop :=
 ∃ I8 : World → Prop,
 (pN Tryd.prog (oNil x0) w fun x4 w1 =>
 pN Tryd.prog (oFld 81 x4 0) w1 fun x5 w2 =>
 pN Tryd.prog (oLoad 79 x5) w2 fun x6 w3 =>
 pN Tryd.prog (oBin .lss 79 (.tmp 6) (.const (.int .u64 4278190080)) x6 (.int .u64 4278190080)) w3 fun x7 w4 =>
 pGd (gB x7 false) (pN Tryd.prog (oMv x0) w4) w4 fun x9 w5 =>
 pGd (gB x7 false) (pN Tryd.prog (oNil x9) w5) w5 fun x10 w6 =>
 pGd (gB x7 false) (pN Tryd.prog (oFld 81 x10 0) w6) w6 fun x11 w7 =>
 pGd (gB x7 false) (pN Tryd.prog (oLoad 79 x11) w7) w7 fun x12 w8 =>
 pGd (gB x7 false) (pN Tryd.prog (oBin .gtr 79 (.tmp 12) (.const (.int .u64 4294967295)) x12 (.int .u64 4294967295)) w8) w8 fun x13 w9 =>
 pN Tryd.prog (oPick x7 (.bool true) x13) w9 fun x14 w10 =>
 pIf x14
 (pN Tryd.prog (oNil x0) w10 fun x16 w11 =>
 pN Tryd.prog (oFld 81 x16 0) w11 fun x17 w12 =>
 pN Tryd.prog (oLoad 79 x17) w12 fun x18 w13 =>
 pN Tryd.prog (oBin .shr 79 (.tmp 18) (.const (.int .u64 32)) x18 (.int .u64 32)) w13 fun x19 w14 =>
 pN Tryd.prog (oConv 79 5 x19) w14 fun x20 w15 =>
 pDr w15 fun w16 =>
 pA Tryd.prog (oNil x0) fun x23 =>
 pA Tryd.prog (oFld 81 x23 4) fun x24 =>
 pL Tryd.prog (oLoad 38 x24) w16 fun x25 =>
 pA Tryd.prog (oNil x0) fun x27 =>
 pA Tryd.prog (oFld 81 x27 2) fun x28 =>
 pL Tryd.prog (oLoad 5 x28) w16 fun x29 =>
 pA Tryd.prog (oBin .add 5 (.tmp 29) (.tmp 30) x29 x20) fun x31 =>
 pN Tryd.prog (oBs 38 1 [(0, x31)]) w16 fun x32 w17 =>
 ((Sem.run Tryd.prog (oLoad 38 x24) w17 = .ok (.value x25) w17) ∧ True) ∧ (pN Tryd.prog (oBi .append #[38, 38] 38 [false, false] [x25, x32]) w17 fun x33 w18 =>
 (True) ∧ (pA Tryd.prog (oNil x0) fun x34 =>
 pA Tryd.prog (oFld 81 x34 4) fun x35 =>
 pN Tryd.prog (oStore 38 x35 x33) w18 fun _ w19 =>
 (True) ∧ (∃ (L3 : World → Prop) (m3 : World → Nat),
 L3 w19 ∧
 ∀ (_k3 : Env) (w20 : World), L3 w20 →
 pN Tryd.prog (oNil x0) w20 fun x37 w21 =>
 pN Tryd.prog (oFld 81 x37 3) w21 fun x38 w22 =>
 pN Tryd.prog (oLoad 3 x38) w22 fun x39 w23 =>
 pN Tryd.prog (oBin .gtr 3 (.tmp 39) (.const (.int .i64 0)) x39 (.int .i64 0)) w23 fun x40 w24 =>
 pIf x40
 (pN Tryd.prog (oNil x0) w24 fun x50 w25 =>
 pN Tryd.prog (oFld 81 x50 4) w25 fun x51 w26 =>
 pN Tryd.prog (oLoad 38 x51) w26 fun x52 w27 =>
 pN Tryd.prog (oBin .add 5 (.const (.int .u8 255)) (.tmp 53) (bv 255) x20) w27 fun x54 w28 =>
 pN Tryd.prog (oBs 38 1 [(0, x54)]) w28 fun x55 w29 =>
 pN Tryd.prog (oBi .append #[38, 38] 38 [false, false] [x52, x55]) w29 fun x56 w30 =>
 pN Tryd.prog (oNil x0) w30 fun x57 w31 =>
 pN Tryd.prog (oFld 81 x57 4) w31 fun x58 w32 =>
 pN Tryd.prog (oStore 38 x58 x56) w32 fun _ w33 =>
 pN Tryd.prog (oNil x0) w33 fun x42 w34 =>
 pN Tryd.prog (oFld 81 x42 3) w34 fun x43 w35 =>
 pN Tryd.prog (oLoad 3 x43) w35 fun x44 w36 =>
 pN Tryd.prog (oBin .sub 3 (.tmp 44) (.const (.int .i64 1)) x44 (.int .i64 1)) w36 fun x45 w37 =>
 pN Tryd.prog (oNil x0) w37 fun x46 w38 =>
 pN Tryd.prog (oFld 81 x46 3) w38 fun x47 w39 =>
 pN Tryd.prog (oStore 3 x47 x45) w39 fun _ w40 =>
 (L3 w40 ∧ m3 w40 < m3 w20))
 (pN Tryd.prog (oNil x0) w24 fun x61 w41 =>
 pN Tryd.prog (oFld 81 x61 0) w41 fun x62 w42 =>
 pN Tryd.prog (oLoad 79 x62) w42 fun x63 w43 =>
 pN Tryd.prog (oBin .shr 79 (.tmp 63) (.const (.int .u64 24)) x63 (.int .u64 24)) w43 fun x64 w44 =>
 pN Tryd.prog (oConv 79 5 x64) w44 fun x65 w45 =>
 pN Tryd.prog (oNil x0) w45 fun x66 w46 =>
 pN Tryd.prog (oFld 81 x66 2) w46 fun x67 w47 =>
 pN Tryd.prog (oStore 5 x67 x65) w47 fun _ w48 =>
 I8 w48)))))
 (pN Tryd.prog (oNil x0) w10 fun x69 w49 =>
 pN Tryd.prog (oFld 81 x69 3) w49 fun x70 w50 =>
 pN Tryd.prog (oLoad 3 x70) w50 fun x71 w51 =>
 pN Tryd.prog (oBin .add 3 (.tmp 71) (.const (.int .i64 1)) x71 (.int .i64 1)) w51 fun x72 w52 =>
 pN Tryd.prog (oNil x0) w52 fun x73 w53 =>
 pN Tryd.prog (oFld 81 x73 3) w53 fun x74 w54 =>
 pN Tryd.prog (oStore 3 x74 x72) w54 fun _ w55 =>
 I8 w55)) ∧
 ∀ (_j8 : Env) (w56 : World), I8 w56 →
 pN Tryd.prog (oNil x0) w56 fun x77 w57 =>
 pN Tryd.prog (oFld 81 x77 0) w57 fun x78 w58 =>
 pN Tryd.prog (oLoad 79 x78) w58 fun x79 w59 =>
 pN Tryd.prog (oBin .and 79 (.tmp 79) (.const (.int .u64 16777215)) x79 (.int .u64 16777215)) w59 fun x80 w60 =>
 pN Tryd.prog (oBin .shl 79 (.tmp 80) (.const (.int .u64 8)) x80 (.int .u64 8)) w60 fun x81 w61 =>
 pN Tryd.prog (oNil x0) w61 fun x82 w62 =>
 pN Tryd.prog (oFld 81 x82 0) w62 fun x83 w63 =>
 pN Tryd.prog (oStore 79 x83 x81) w63 fun _ w64 =>
 Q (.tuple #[]) w64
noncomputable def rcenc_Encoder_shift.c : Code := match Tryd.f40.body with | some c => c | none => .skip
theorem rcenc_Encoder_shift.eq [Pan] (x0 : Value) (w : World) (Q : Value → World → Prop) : cw Tryd.prog rcenc_Encoder_shift.H rcenc_Encoder_shift.c (endQ Tryd.prog Tryd.f40.results.toList Q) (argsE [x0]) w = rcenc_Encoder_shift.F x0 w Q := by kernel_rfl
theorem rcenc_Encoder_shift.calls [Pan] {x0 : Value} {w : World} {Q : Value → World → Prop} (h : rcenc_Encoder_shift.F x0 w Q) : Calls Tryd.prog 40 #[x0] w (retP Q) :=
  calls_of_cw (H := rcenc_Encoder_shift.H) (c := rcenc_Encoder_shift.c) (args := [x0]) mixed Tryd.func40 (by kernel_rfl) (by kernel_rfl) (Nat.le_of_ble_eq_true (by kernel_rfl)) ((rcenc_Encoder_shift.eq x0 w Q).mpr h)

/-! rcenc_Encoder_Bit: (*pith/rcenc.Encoder).Bit; temporaries: 0:e 1:s 2:i 3:bit 4:e 5:s 6:i 7:bit 9:p 10:err 11:cut -/
def rcenc_Encoder_Bit.H : Hints := { cut := fun | 9 => some ([], 562949886312448) | _ => none, loop := fun  | _ => ([], 0), order := fun  | _ => [] }
def rcenc_Encoder_Bit.F [Pan] (x0 : Value) (x1 : Value) (x2 : Value) (x3 : Value) (w : World) (Q : Value → World → Prop) : Prop :=
 pN Tryd.prog (oCall 84 [x1, x2]) w fun x15 w1 =>
 pN Tryd.prog (oExt x15 0) w1 fun x16 w2 =>
 pN Tryd.prog (oExt x15 1) w2 fun x17 w3 =>
 pN Tryd.prog (oBin .neq 28 (.tmp 18) (.const (.int .i64 0)) x17 (.int .i64 0)) w3 fun x19 w4 =>
 pIf x19
 (Q (.int .i64 7) w4)
 (pN Tryd.prog (oNil x0) w4 fun x21 w5 =>
 pN Tryd.prog (oFld 81 x21 1) w5 fun x22 w6 =>
 pN Tryd.prog (oLoad 78 x22) w6 fun x23 w7 =>
 pN Tryd.prog (oCall 85 [x23, x16]) w7 fun x25 w8 =>
 ∃ I9 : World → Prop,
 (pN Tryd.prog (oBin .eql 3 (.tmp 26) (.const (.int .i64 0)) x3 (.int .i64 0)) w8 fun x27 w9 =>
 pIf x27
 (pN Tryd.prog (oNil x0) w9 fun x30 w10 =>
 pN Tryd.prog (oFld 81 x30 1) w10 fun x31 w11 =>
 pN Tryd.prog (oStore 78 x31 x25) w11 fun _ w12 =>
 I9 w12)
 (pN Tryd.prog (oNil x0) w9 fun x33 w13 =>
 pN Tryd.prog (oFld 81 x33 0) w13 fun x34 w14 =>
 pN Tryd.prog (oLoad 79 x34) w14 fun x35 w15 =>
 pN Tryd.prog (oConv 78 79 x25) w15 fun x37 w16 =>
 pN Tryd.prog (oBin .add 79 (.tmp 35) (.tmp 37) x35 x37) w16 fun x38 w17 =>
 pN Tryd.prog (oNil x0) w17 fun x39 w18 =>
 pN Tryd.prog (oFld 81 x39 0) w18 fun x40 w19 =>
 pN Tryd.prog (oStore 79 x40 x38) w19 fun _ w20 =>
 pN Tryd.prog (oNil x0) w20 fun x42 w21 =>
 pN Tryd.prog (oFld 81 x42 1) w21 fun x43 w22 =>
 pN Tryd.prog (oLoad 78 x43) w22 fun x44 w23 =>
 pN Tryd.prog (oBin .sub 78 (.tmp 44) (.tmp 45) x44 x25) w23 fun x46 w24 =>
 pN Tryd.prog (oNil x0) w24 fun x47 w25 =>
 pN Tryd.prog (oFld 81 x47 1) w25 fun x48 w26 =>
 pN Tryd.prog (oStore 78 x48 x46) w26 fun _ w27 =>
 I9 w27)) ∧
 ∀ (_j9 : Env) (w28 : World), I9 w28 →
 pN Tryd.prog (oCall 86 [x0]) w28 fun _ w29 =>
 pN Tryd.prog (oCall 87 [x1, x2, x3]) w29 fun x54 w30 =>
 Q x54 w30)
noncomputable def rcenc_Encoder_Bit.c : Code := match Tryd.f80.body with | some c => c | none => .skip
theorem rcenc_Encoder_Bit.eq [Pan] (x0 : Value) (x1 : Value) (x2 : Value) (x3 : Value) (w : World) (Q : Value → World → Prop) : cw Tryd.prog rcenc_Encoder_Bit.H rcenc_Encoder_Bit.c (endQ Tryd.prog Tryd.f80.results.toList Q) (argsE [x0, x1, x2, x3]) w = rcenc_Encoder_Bit.F x0 x1 x2 x3 w Q := by kernel_rfl
theorem rcenc_Encoder_Bit.calls [Pan] {x0 : Value} {x1 : Value} {x2 : Value} {x3 : Value} {w : World} {Q : Value → World → Prop} (h : rcenc_Encoder_Bit.F x0 x1 x2 x3 w Q) : Calls Tryd.prog 80 #[x0, x1, x2, x3] w (retP Q) :=
  calls_of_cw (H := rcenc_Encoder_Bit.H) (c := rcenc_Encoder_Bit.c) (args := [x0, x1, x2, x3]) mixed Tryd.func80 (by kernel_rfl) (by kernel_rfl) (Nat.le_of_ble_eq_true (by kernel_rfl)) ((rcenc_Encoder_Bit.eq x0 x1 x2 x3 w Q).mpr h)

/-! rcenc_Encoder_Direct: (*pith/rcenc.Encoder).Direct; temporaries: 0:e 1:v 2:n 3:e 4:v 5:n -/
def rcenc_Encoder_Direct.H : Hints := { cut := fun | 5 => some ([], 35184371564544) | 9 => some ([], 8796025913344) | _ => none, loop := fun | 4 => ([2], 35184372056068) | _ => ([], 0), order := fun | 8 => [(0, 0), (1, 1), (2, 3), (3, 7), (4, 15), (5, 31), (6, 63), (7, 127), (8, 255), (9, 511), (10, 1023), (11, 2047), (12, 4095)] | _ => [] }
def rcenc_Encoder_Direct.F [Pan] (x0 : Value) (x1 : Value) (x2 : Value) (w : World) (Q : Value → World → Prop) : Prop :=
 pN Tryd.prog (oBin .lss 3 (.tmp 7) (.const (.int .i64 0)) x2 (.int .i64 0)) w fun x8 w1 =>
 pGd (gB x8 false) (pN Tryd.prog (oMv x2) w1) w1 fun x10 w2 =>
 pGd (gB x8 false) (pN Tryd.prog (oBin .gtr 3 (.tmp 10) (.const (.int .i64 32)) x10 (.int .i64 32)) w2) w2 fun x11 w3 =>
 pN Tryd.prog (oPick x8 (.bool true) x11) w3 fun x12 w4 =>
 pIf x12
 (Q (.int .i64 7) w4)
 (pN Tryd.prog (oBin .sub 3 (.tmp 13) (.const (.int .i64 1)) x2 (.int .i64 1)) w4 fun x14 w5 =>
 ∃ (L4 : Value → World → Prop) (m4 : Value → World → Nat),
 L4 x14 w5 ∧
 ∀ (_k4 : Env) (n2l4 : Value) (w6 : World), L4 n2l4 w6 →
 pN Tryd.prog (oBin .geq 3 (.tmp 15) (.const (.int .i64 0)) n2l4 (.int .i64 0)) w6 fun x16 w7 =>
 pIf x16
 (∃ I5 : World → Prop,
 (pN Tryd.prog (oNil x0) w7 fun x20 w8 =>
 pN Tryd.prog (oFld 81 x20 1) w8 fun x21 w9 =>
 pN Tryd.prog (oLoad 78 x21) w9 fun x22 w10 =>
 pN Tryd.prog (oBin .quo 78 (.tmp 22) (.const (.int .u32 2)) x22 (.int .u32 2)) w10 fun x23 w11 =>
 pN Tryd.prog (oNil x0) w11 fun x24 w12 =>
 pN Tryd.prog (oFld 81 x24 1) w12 fun x25 w13 =>
 pN Tryd.prog (oStore 78 x25 x23) w13 fun _ w14 =>
 ∃ I9 : World → Prop,
 (pN Tryd.prog (oBin .shr 78 (.tmp 26) (.tmp 27) x1 n2l4) w14 fun x28 w15 =>
 pN Tryd.prog (oBin .and 78 (.tmp 28) (.const (.int .u32 1)) x28 (.int .u32 1)) w15 fun x29 w16 =>
 pN Tryd.prog (oBin .eql 78 (.tmp 29) (.const (.int .u32 1)) x29 (.int .u32 1)) w16 fun x30 w17 =>
 pIf x30
 (pDr w17 fun w18 =>
 pA Tryd.prog (oNil x0) fun x32 =>
 pA Tryd.prog (oFld 81 x32 0) fun x33 =>
 pL Tryd.prog (oLoad 79 x33) w18 fun x34 =>
 pA Tryd.prog (oNil x0) fun x36 =>
 pA Tryd.prog (oFld 81 x36 1) fun x37 =>
 pL Tryd.prog (oLoad 78 x37) w18 fun x38 =>
 pL Tryd.prog (oConv 78 79 x38) w18 fun x39 =>
 pA Tryd.prog (oBin .add 79 (.tmp 34) (.tmp 39) x34 x39) fun x40 =>
 pA Tryd.prog (oNil x0) fun x41 =>
 pA Tryd.prog (oFld 81 x41 0) fun x42 =>
 pN Tryd.prog (oStore 79 x42 x40) w18 fun _ w19 =>
 (True) ∧ (I9 w19))
 (I9 w17)) ∧
 ∀ (_j9 : Env) (w20 : World), I9 w20 →
 pN Tryd.prog (oCall 86 [x0]) w20 fun _ w21 =>
 I5 w21) ∧
 ∀ (_j5 : Env) (w22 : World), I5 w22 →
 pN Tryd.prog (oBin .sub 3 (.tmp 17) (.const (.int .i64 1)) n2l4 (.int .i64 1)) w22 fun x18 w23 =>
 (L4 x18 w23 ∧ m4 x18 w23 < m4 n2l4 w6))
 (Q (.int .i64 0) w7))
noncomputable def rcenc_Encoder_Direct.c : Code := match Tryd.f81.body with | some c => c | none => .skip
theorem rcenc_Encoder_Direct.eq [Pan] (x0 : Value) (x1 : Value) (x2 : Value) (w : World) (Q : Value → World → Prop) : cw Tryd.prog rcenc_Encoder_Direct.H rcenc_Encoder_Direct.c (endQ Tryd.prog Tryd.f81.results.toList Q) (argsE [x0, x1, x2]) w = rcenc_Encoder_Direct.F x0 x1 x2 w Q := by kernel_rfl
theorem rcenc_Encoder_Direct.calls [Pan] {x0 : Value} {x1 : Value} {x2 : Value} {w : World} {Q : Value → World → Prop} (h : rcenc_Encoder_Direct.F x0 x1 x2 w Q) : Calls Tryd.prog 81 #[x0, x1, x2] w (retP Q) :=
  calls_of_cw (H := rcenc_Encoder_Direct.H) (c := rcenc_Encoder_Direct.c) (args := [x0, x1, x2]) mixed Tryd.func81 (by kernel_rfl) (by kernel_rfl) (Nat.le_of_ble_eq_true (by kernel_rfl)) ((rcenc_Encoder_Direct.eq x0 x1 x2 w Q).mpr h)

/-! rcenc_Encoder_widen: (*pith/rcenc.Encoder).widen; temporaries: 0:e 1:e -/
def rcenc_Encoder_widen.H : Hints := { cut := fun  | _ => none, loop := fun | 0 => ([], 65532) | _ => ([], 0), order := fun  | _ => [] }
def rcenc_Encoder_widen.F [Pan] (x0 : Value) (w : World) (Q : Value → World → Prop) : Prop :=
 ∃ (L0 : World → Prop) (m0 : World → Nat),
 L0 w ∧
 ∀ (_k0 : Env) (w1 : World), L0 w1 →
 pN Tryd.prog (oNil x0) w1 fun x3 w2 =>
 pN Tryd.prog (oFld 81 x3 1) w2 fun x4 w3 =>
 pN Tryd.prog (oLoad 78 x4) w3 fun x5 w4 =>
 pN Tryd.prog (oBin .lss 78 (.tmp 5) (.const (.int .u32 16777216)) x5 (.int .u32 16777216)) w4 fun x6 w5 =>
 pIf x6
 (pN Tryd.prog (oNil x0) w5 fun x8 w6 =>
 pN Tryd.prog (oFld 81 x8 1) w6 fun x9 w7 =>
 pN Tryd.prog (oLoad 78 x9) w7 fun x10 w8 =>
 pN Tryd.prog (oBin .shl 78 (.tmp 10) (.const (.int .u64 8)) x10 (.int .u64 8)) w8 fun x11 w9 =>
 pN Tryd.prog (oNil x0) w9 fun x12 w10 =>
 pN Tryd.prog (oFld 81 x12 1) w10 fun x13 w11 =>
 pN Tryd.prog (oStore 78 x13 x11) w11 fun _ w12 =>
 pN Tryd.prog (oCall 40 [x0]) w12 fun _ w13 =>
 (L0 w13 ∧ m0 w13 < m0 w1))
 (Q (.tuple #[]) w5)
noncomputable def rcenc_Encoder_widen.c : Code := match Tryd.f86.body with | some c => c | none => .skip
theorem rcenc_Encoder_widen.eq [Pan] (x0 : Value) (w : World) (Q : Value → World → Prop) : cw Tryd.prog rcenc_Encoder_widen.H rcenc_Encoder_widen.c (endQ Tryd.prog Tryd.f86.results.toList Q) (argsE [x0]) w = rcenc_Encoder_widen.F x0 w Q := by kernel_rfl
theorem rcenc_Encoder_widen.calls [Pan] {x0 : Value} {w : World} {Q : Value → World → Prop} (h : rcenc_Encoder_widen.F x0 w Q) : Calls Tryd.prog 86 #[x0] w (retP Q) :=
  calls_of_cw (H := rcenc_Encoder_widen.H) (c := rcenc_Encoder_widen.c) (args := [x0]) mixed Tryd.func86 (by kernel_rfl) (by kernel_rfl) (Nat.le_of_ble_eq_true (by kernel_rfl)) ((rcenc_Encoder_widen.eq x0 w Q).mpr h)

end Go.Proofs.YtbgnnjfpiblkmaaDoor
