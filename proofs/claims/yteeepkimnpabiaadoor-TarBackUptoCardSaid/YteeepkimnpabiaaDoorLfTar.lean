/-
  Printed by a program of mine (lift.py): each function of the seat as a plain proposition over values and worlds; that the program meets it.
-/
import Derived.Test.YteeepkimnpabiaaDoorRows
import Derived.Test.YteeepkimnpabiaaDoorFacts
namespace Go.Proofs.YteeepkimnpabiaaDoor
open Go
set_option linter.unusedSimpArgs false
set_option linter.unnecessarySimpa false
set_option linter.unusedSectionVars false
set_option linter.unusedVariables false
set_option maxRecDepth 100000

/-! tar_Put: pith/tar.Put; temporaries: 0:x 1:x 4:err 5:b -/
def tar_Put.H : Hints := { cut := fun  | _ => none, loop := fun  | _ => ([], 0), order := fun | 4 => [(0, 0), (1, 1), (2, 3), (3, 7), (7, 15), (8, 143), (4, 399), (5, 415), (6, 447), (9, 511), (10, 1023)] | _ => [] }
def tar_Put.F [Pan] (x0 : Value) (w : World) (Q : Value → World → Prop) : Prop :=
 pN Tryd.prog (oBox 24 x0) w fun x1 w1 =>
 pN Tryd.prog (oLoad 24 x1) w1 fun x6 w2 =>
 pN Tryd.prog (oCall 26 [x6]) w2 fun x7 w3 =>
 pN Tryd.prog (oBin .neq 25 (.tmp 8) (.const (.int .i64 0)) x7 (.int .i64 0)) w3 fun x9 w4 =>
 pIf x9
 (Q (.tuple #[(.slice none 0 0), x7]) w4)
 (pDr w4 fun w5 =>
 pL Tryd.prog (oLoad 24 x1) w5 fun x11 =>
 pA Tryd.prog (oFld 24 x1 5) fun x12 =>
 pL Tryd.prog (oLoad 22 x12) w5 fun x13 =>
 pA Tryd.prog (oBi .len #[22] 3 [false] [x13]) fun x14 =>
 pA Tryd.prog (oFld 24 x1 5) fun x18 =>
 pL Tryd.prog (oLoad 22 x18) w5 fun x19 =>
 pN Tryd.prog (oBuild 65 [(0, x11), (1, x14)]) w5 fun x15 w6 =>
 ((Sem.run Tryd.prog (oLoad 22 x18) w6 = .ok (.value x19) w6) ∧ True) ∧ (pN Tryd.prog (oBox 65 x15) w6 fun x16 w7 =>
 ((Sem.run Tryd.prog (oLoad 22 x18) w7 = .ok (.value x19) w7) ∧ True) ∧ (pN Tryd.prog (oCall 27 [x16]) w7 fun x17 w8 =>
 ((Sem.run Tryd.prog (oLoad 22 x18) w8 = .ok (.value x19) w8) ∧ True) ∧ (pN Tryd.prog (oBi .append #[22, 22] 22 [false, false] [x17, x19]) w8 fun x20 w9 =>
 (True) ∧ (pN Tryd.prog (oBi .len #[22] 3 [false] [x20]) w9 fun x23 w10 =>
 pN Tryd.prog (oCall 28 [x23]) w10 fun x24 w11 =>
 pN Tryd.prog (oBi .append #[22, 3] 22 [false, false] [x20, x24]) w11 fun x25 w12 =>
 Q (.tuple #[x25, (.int .i64 0)]) w12)))))
noncomputable def tar_Put.c : Code := match Tryd.f8.body with | some c => c | none => .skip
theorem tar_Put.eq [Pan] (x0 : Value) (w : World) (Q : Value → World → Prop) : cw Tryd.prog tar_Put.H tar_Put.c (endQ Tryd.prog Tryd.f8.results.toList Q) (argsE [x0]) w = tar_Put.F x0 w Q := by kernel_rfl
theorem tar_Put.calls [Pan] {x0 : Value} {w : World} {Q : Value → World → Prop} (h : tar_Put.F x0 w Q) : Calls Tryd.prog 8 #[x0] w (retP Q) :=
  calls_of_cw (H := tar_Put.H) (c := tar_Put.c) (args := [x0]) mixed Tryd.func8 (by kernel_rfl) (by kernel_rfl) (Nat.le_of_ble_eq_true (by kernel_rfl)) ((tar_Put.eq x0 w Q).mpr h)

/-! tar_Get: pith/tar.Get; temporaries: 0:b 1:b 5:h 6:_ 7:f 8:n -/
def tar_Get.H : Hints := { cut := fun | 11 => some ([], 2199006478464) | _ => none, loop := fun | 7 => ([22], 4398042316928) | _ => ([], 0), order := fun | 3 => [(0, 0), (1, 1), (2, 3), (3, 7), (4, 15), (5, 31)] | 10 => [(0, 0), (1, 1), (2, 3), (3, 7), (4, 15), (5, 31), (6, 63), (7, 127), (8, 255), (9, 511), (10, 1023), (11, 2047)] | 12 => [(0, 0), (1, 1), (2, 3), (3, 7), (4, 15), (5, 31), (6, 63), (7, 127), (8, 255), (9, 511), (10, 1023), (11, 2047), (12, 4095), (13, 8191), (14, 16383), (15, 32767), (17, 65535), (18, 196607), (16, 458751), (19, 524287), (20, 1048575), (21, 2097151)] | 14 => [(0, 0), (1, 1), (2, 3), (3, 7), (4, 15), (5, 31), (6, 63)] | _ => [] }
def tar_Get.F [Pan] (x0 : Value) (w : World) (Q : Value → World → Prop) : Prop :=
 pN Tryd.prog (oAlloc 24) w fun x2 w1 =>
 pN Tryd.prog (oBi .len #[22] 3 [false] [x0]) w1 fun x10 w2 =>
 pN Tryd.prog (oBin .lss 3 (.tmp 10) (.const (.int .i64 512)) x10 (.int .i64 512)) w2 fun x11 w3 =>
 pIf x11
 (pN Tryd.prog (oBuild 24 []) w3 fun x12 w4 =>
 pN Tryd.prog (oStore 24 x2 x12) w4 fun _ w5 =>
 pL Tryd.prog (oRes 24 x2) w5 fun r2 =>
 Q (.tuple #[r2, (.int .i64 0), (.int .i64 1)]) w5)
 (pDr w3 fun w6 =>
 pA Tryd.prog (oSl 22 x0 (some (.int .i64 148)) (some (.int .i64 156)) none) fun x14 =>
 pN Tryd.prog (oCall 30 [x0]) w6 fun x16 w7 =>
 (True) ∧ (pN Tryd.prog (oCall 29 [x14, x16]) w7 fun x17 w8 =>
 (True) ∧ (pA Tryd.prog (oUn .not x17) fun x18 =>
 pIf x18
 (pN Tryd.prog (oBuild 24 []) w8 fun x19 w9 =>
 pN Tryd.prog (oStore 24 x2 x19) w9 fun _ w10 =>
 pL Tryd.prog (oRes 24 x2) w10 fun r2 =>
 Q (.tuple #[r2, (.int .i64 0), (.int .i64 3)]) w10)
 (pN Tryd.prog (oAlloc 65) w8 fun x5 w11 =>
 pN Tryd.prog (oCall 31 []) w11 fun x20 w12 =>
 pN Tryd.prog (oBi .len #[69] 3 [false] [x20]) w12 fun x21 w13 =>
 ∃ (L7 : Value → World → Prop) (m7 : Value → World → Nat),
 L7 (.int .i64 0) w13 ∧
 ∀ (_k7 : Env) (v22l7 : Value) (w14 : World), L7 v22l7 w14 →
 pN Tryd.prog (oBin .lss 3 (.tmp 22) (.tmp 21) v22l7 x21) w14 fun x23 w15 =>
 pIf x23
 (∃ I11 : World → Prop,
 (pN Tryd.prog (oIdx 69 x20 v22l7) w15 fun x24 w16 =>
 pN Tryd.prog (oLoad 73 x24) w16 fun x25 w17 =>
 pN Tryd.prog (oAlloc 73) w17 fun x7 w18 =>
 pN Tryd.prog (oStore 73 x7 x25) w18 fun _ w19 =>
 pN Tryd.prog (oFld 73 x7 3) w19 fun x26 w20 =>
 pN Tryd.prog (oLoad 71 x26) w20 fun x27 w21 =>
 pN Tryd.prog (oBin .neq 71 (.tmp 27) (.const .nilFunc) x27 .nilFunc) w21 fun x28 w22 =>
 pIf x28
 (pDr w22 fun w23 =>
 pA Tryd.prog (oFld 73 x7 3) fun x29 =>
 pL Tryd.prog (oLoad 71 x29) w23 fun x30 =>
 pA Tryd.prog (oFld 73 x7 0) fun x32 =>
 pL Tryd.prog (oLoad 3 x32) w23 fun x33 =>
 pA Tryd.prog (oFld 73 x7 0) fun x34 =>
 pL Tryd.prog (oLoad 3 x34) w23 fun x35 =>
 pA Tryd.prog (oFld 73 x7 1) fun x36 =>
 pL Tryd.prog (oLoad 3 x36) w23 fun x37 =>
 pA Tryd.prog (oBin .add 3 (.tmp 35) (.tmp 37) x35 x37) fun x38 =>
 pA Tryd.prog (oSl 22 x0 (some x33) (some x38) none) fun x39 =>
 pN Tryd.prog (oCallV x30 [x39, x5]) w23 fun _ w24 =>
 (True) ∧ (I11 w24))
 (I11 w22)) ∧
 ∀ (_j11 : Env) (w25 : World), I11 w25 →
 pN Tryd.prog (oBin .add 3 (.tmp 22) (.const (.int .i64 1)) v22l7 (.int .i64 1)) w25 fun x41 w26 =>
 (L7 x41 w26 ∧ m7 x41 w26 < m7 v22l7 w14))
 (pDr w15 fun w27 =>
 pA Tryd.prog (oFld 65 x5 0) fun x42 =>
 pL Tryd.prog (oLoad 24 x42) w27 fun x43 =>
 pN Tryd.prog (oCall 26 [x43]) w27 fun x44 w28 =>
 (True) ∧ (pA Tryd.prog (oBin .neq 25 (.tmp 44) (.const (.int .i64 0)) x44 (.int .i64 0)) fun x45 =>
 gA (gB x45 false) (pA Tryd.prog (oFld 65 x5 0)) fun x47 =>
 gA (gB x45 false) (pA Tryd.prog (oFld 24 x47 2)) fun x48 =>
 gA (gB x45 false) (pL Tryd.prog (oLoad 3 x48) w28) fun x49 =>
 gA (gB x45 false) (pA Tryd.prog (oBin .neq 3 (.tmp 49) (.const (.int .i64 0)) x49 (.int .i64 0))) fun x50 =>
 gA (gB x45 false) (pA Tryd.prog (oMv x50)) fun x51 =>
 gA (gB x51 true) (pA Tryd.prog (oFld 65 x5 1)) fun x52 =>
 gA (gB x51 true) (pL Tryd.prog (oLoad 3 x52) w28) fun x53 =>
 gA (gB x51 true) (pA Tryd.prog (oBin .gtr 3 (.tmp 53) (.const (.int .i64 0)) x53 (.int .i64 0))) fun x54 =>
 gA (gB x45 false) (pA Tryd.prog (oPick x51 x54 (.bool false))) fun x55 =>
 pA Tryd.prog (oPick x45 (.bool true) x55) fun x56 =>
 gA (gB x56 false) (pA Tryd.prog (oMv x0)) fun x59 =>
 gA (gB x56 false) (pA Tryd.prog (oSl 22 x59 none (some (.int .i64 512)) none)) fun x60 =>
 pGd (gB x56 false) (pN Tryd.prog (oCall 27 [x5]) w28) w28 fun x58 w29 =>
 (True) ∧ (pGd (gB x56 false) (pN Tryd.prog (oCall 29 [x58, x60]) w29) w29 fun x61 w30 =>
 (True) ∧ (gA (gB x56 false) (pA Tryd.prog (oUn .not x61)) fun x62 =>
 pA Tryd.prog (oPick x56 (.bool true) x62) fun x63 =>
 pIf x63
 (pN Tryd.prog (oBuild 24 []) w30 fun x64 w31 =>
 pN Tryd.prog (oStore 24 x2 x64) w31 fun _ w32 =>
 pL Tryd.prog (oRes 24 x2) w32 fun r2 =>
 Q (.tuple #[r2, (.int .i64 0), (.int .i64 2)]) w32)
 (pDr w30 fun w33 =>
 pA Tryd.prog (oFld 65 x5 1) fun x65 =>
 pL Tryd.prog (oLoad 3 x65) w33 fun x66 =>
 pA Tryd.prog (oFld 65 x5 1) fun x67 =>
 pL Tryd.prog (oLoad 3 x67) w33 fun x68 =>
 pN Tryd.prog (oCall 28 [x68]) w33 fun x69 w34 =>
 ((Sem.run Tryd.prog (oLoad 3 x65) w34 = .ok (.value x66) w34) ∧ True) ∧ (pA Tryd.prog (oBin .add 3 (.tmp 66) (.tmp 69) x66 x69) fun x70 =>
 pN Tryd.prog (oBi .len #[22] 3 [false] [x0]) w34 fun x73 w35 =>
 pN Tryd.prog (oBin .sub 3 (.tmp 73) (.const (.int .i64 512)) x73 (.int .i64 512)) w35 fun x74 w36 =>
 pN Tryd.prog (oBin .gtr 3 (.tmp 71) (.tmp 74) x70 x74) w36 fun x75 w37 =>
 pIf x75
 (pN Tryd.prog (oBuild 24 []) w37 fun x76 w38 =>
 pN Tryd.prog (oStore 24 x2 x76) w38 fun _ w39 =>
 pL Tryd.prog (oRes 24 x2) w39 fun r2 =>
 Q (.tuple #[r2, (.int .i64 0), (.int .i64 1)]) w39)
 (pN Tryd.prog (oBin .add 3 (.tmp 77) (.const (.int .i64 512)) x70 (.int .i64 512)) w37 fun x78 w40 =>
 pN Tryd.prog (oFld 65 x5 1) w40 fun x80 w41 =>
 pN Tryd.prog (oLoad 3 x80) w41 fun x81 w42 =>
 pN Tryd.prog (oBin .add 3 (.const (.int .i64 512)) (.tmp 81) (.int .i64 512) x81) w42 fun x82 w43 =>
 pN Tryd.prog (oSl 22 x0 (some x82) (some x78) none) w43 fun x84 w44 =>
 pN Tryd.prog (oCall 32 [x84]) w44 fun x85 w45 =>
 pN Tryd.prog (oUn .not x85) w45 fun x86 w46 =>
 pIf x86
 (pN Tryd.prog (oBuild 24 []) w46 fun x87 w47 =>
 pN Tryd.prog (oStore 24 x2 x87) w47 fun _ w48 =>
 pL Tryd.prog (oRes 24 x2) w48 fun r2 =>
 Q (.tuple #[r2, (.int .i64 0), (.int .i64 2)]) w48)
 (pN Tryd.prog (oFld 65 x5 1) w46 fun x89 w49 =>
 pN Tryd.prog (oLoad 3 x89) w49 fun x90 w50 =>
 pN Tryd.prog (oBin .add 3 (.const (.int .i64 512)) (.tmp 90) (.int .i64 512) x90) w50 fun x91 w51 =>
 pN Tryd.prog (oSl 22 x0 (some (.int .i64 512)) (some x91) none) w51 fun x92 w52 =>
 pN Tryd.prog (oBi .append #[22, 22] 22 [true, false] [(.slice none 0 0), x92]) w52 fun x93 w53 =>
 pN Tryd.prog (oFld 65 x5 0) w53 fun x94 w54 =>
 pN Tryd.prog (oFld 24 x94 5) w54 fun x95 w55 =>
 pN Tryd.prog (oStore 22 x95 x93) w55 fun _ w56 =>
 pN Tryd.prog (oFld 65 x5 0) w56 fun x96 w57 =>
 pN Tryd.prog (oLoad 24 x96) w57 fun x97 w58 =>
 pN Tryd.prog (oStore 24 x2 x97) w58 fun _ w59 =>
 pL Tryd.prog (oRes 24 x2) w59 fun r2 =>
 Q (.tuple #[r2, x78, (.int .i64 0)]) w59))))))))))))
noncomputable def tar_Get.c : Code := match Tryd.f11.body with | some c => c | none => .skip
theorem tar_Get.eq [Pan] (x0 : Value) (w : World) (Q : Value → World → Prop) : cw Tryd.prog tar_Get.H tar_Get.c (endQ Tryd.prog Tryd.f11.results.toList Q) (argsE [x0]) w = tar_Get.F x0 w Q := by kernel_rfl
theorem tar_Get.calls [Pan] {x0 : Value} {w : World} {Q : Value → World → Prop} (h : tar_Get.F x0 w Q) : Calls Tryd.prog 11 #[x0] w (retP Q) :=
  calls_of_cw (H := tar_Get.H) (c := tar_Get.c) (args := [x0]) mixed Tryd.func11 (by kernel_rfl) (by kernel_rfl) (Nat.le_of_ble_eq_true (by kernel_rfl)) ((tar_Get.eq x0 w Q).mpr h)

/-! tar_Write: pith/tar.Write; temporaries: 0:l 1:l 4:out 5:_ 6:x 7:b 8:err -/
def tar_Write.H : Hints := { cut := fun  | _ => none, loop := fun | 3 => ([4, 11], 134216156) | _ => ([], 0), order := fun  | _ => [] }
def tar_Write.F [Pan] (x0 : Value) (w : World) (Q : Value → World → Prop) : Prop :=
 pN Tryd.prog (oBi .len #[34] 3 [false] [x0]) w fun x10 w1 =>
 ∃ (L3 : Value → Value → World → Prop) (m3 : Value → Value → World → Nat),
 L3 (.slice none 0 0) (.int .i64 0) w1 ∧
 ∀ (_k3 : Env) (out4l3 : Value) (v11l3 : Value) (w2 : World), L3 out4l3 v11l3 w2 →
 pN Tryd.prog (oBin .lss 3 (.tmp 11) (.tmp 10) v11l3 x10) w2 fun x12 w3 =>
 pIf x12
 (pN Tryd.prog (oIdx 34 x0 v11l3) w3 fun x13 w4 =>
 pN Tryd.prog (oLoad 24 x13) w4 fun x14 w5 =>
 pN Tryd.prog (oAlloc 24) w5 fun x6 w6 =>
 pN Tryd.prog (oStore 24 x6 x14) w6 fun _ w7 =>
 pN Tryd.prog (oLoad 24 x6) w7 fun x16 w8 =>
 pN Tryd.prog (oCall 8 [x16]) w8 fun x17 w9 =>
 pN Tryd.prog (oExt x17 0) w9 fun x18 w10 =>
 pN Tryd.prog (oExt x17 1) w10 fun x19 w11 =>
 pN Tryd.prog (oBin .neq 25 (.tmp 20) (.const (.int .i64 0)) x19 (.int .i64 0)) w11 fun x21 w12 =>
 pIf x21
 (Q (.tuple #[(.slice none 0 0), x19]) w12)
 (pN Tryd.prog (oBi .append #[22, 22] 22 [false, false] [out4l3, x18]) w12 fun x25 w13 =>
 pN Tryd.prog (oBin .add 3 (.tmp 11) (.const (.int .i64 1)) v11l3 (.int .i64 1)) w13 fun x26 w14 =>
 (L3 x25 x26 w14 ∧ m3 x25 x26 w14 < m3 out4l3 v11l3 w2)))
 (pN Tryd.prog (oBi .append #[22, 3] 22 [false, true] [out4l3, (.int .i64 1024)]) w3 fun x28 w15 =>
 Q (.tuple #[x28, (.int .i64 0)]) w15)
noncomputable def tar_Write.c : Code := match Tryd.f15.body with | some c => c | none => .skip
theorem tar_Write.eq [Pan] (x0 : Value) (w : World) (Q : Value → World → Prop) : cw Tryd.prog tar_Write.H tar_Write.c (endQ Tryd.prog Tryd.f15.results.toList Q) (argsE [x0]) w = tar_Write.F x0 w Q := by kernel_rfl
theorem tar_Write.calls [Pan] {x0 : Value} {w : World} {Q : Value → World → Prop} (h : tar_Write.F x0 w Q) : Calls Tryd.prog 15 #[x0] w (retP Q) :=
  calls_of_cw (H := tar_Write.H) (c := tar_Write.c) (args := [x0]) mixed Tryd.func15 (by kernel_rfl) (by kernel_rfl) (Nat.le_of_ble_eq_true (by kernel_rfl)) ((tar_Write.eq x0 w Q).mpr h)

/-! tar_Items: pith/tar.Items; temporaries: 0:b 1:b -/
def tar_Items.H : Hints := { cut := fun  | _ => none, loop := fun  | _ => ([], 0), order := fun  | _ => [] }
def tar_Items.F [Pan] (x0 : Value) (w : World) (Q : Value → World → Prop) : Prop :=
 pN Tryd.prog (oBox 22 x0) w fun x1 w1 =>
 pN Tryd.prog (oLoad 22 x1) w1 fun x3 w2 =>
 pN Tryd.prog (oCall 41 [x3]) w2 fun x4 w3 =>
 pN Tryd.prog (oStore 22 x1 x4) w3 fun _ w4 =>
 pN Tryd.prog (oFn (.func 42) [] [x1]) w4 fun x5 w5 =>
 Q x5 w5
noncomputable def tar_Items.c : Code := match Tryd.f23.body with | some c => c | none => .skip
theorem tar_Items.eq [Pan] (x0 : Value) (w : World) (Q : Value → World → Prop) : cw Tryd.prog tar_Items.H tar_Items.c (endQ Tryd.prog Tryd.f23.results.toList Q) (argsE [x0]) w = tar_Items.F x0 w Q := by kernel_rfl
theorem tar_Items.calls [Pan] {x0 : Value} {w : World} {Q : Value → World → Prop} (h : tar_Items.F x0 w Q) : Calls Tryd.prog 23 #[x0] w (retP Q) :=
  calls_of_cw (H := tar_Items.H) (c := tar_Items.c) (args := [x0]) mixed Tryd.func23 (by kernel_rfl) (by kernel_rfl) (Nat.le_of_ble_eq_true (by kernel_rfl)) ((tar_Items.eq x0 w Q).mpr h)

/-! tar_wrong: pith/tar.wrong; temporaries: 0:x 1:x 3:_ 4:_ 5:named 6:link -/
def tar_wrong.H : Hints := { cut := fun | 6 => some ([17], 4398046380032) | 9 => some ([42], 9223367638808264704) | 13 => some ([63], 19342803890462029940523008) | 14 => some ([], 19342813113834066795167748) | _ => none, loop := fun  | _ => ([], 0), order := fun  | _ => [] }
def tar_wrong.F [Pan] (x0 : Value) (w : World) (Q : Value → World → Prop) : Prop :=
 pN Tryd.prog (oBox 24 x0) w fun x1 w1 =>
 pN Tryd.prog (oFld 24 x1 0) w1 fun x8 w2 =>
 pN Tryd.prog (oLoad 9 x8) w2 fun x9 w3 =>
 pN Tryd.prog (oCall 43 [x9]) w3 fun x10 w4 =>
 pN Tryd.prog (oExt x10 0) w4 fun _ w5 =>
 pN Tryd.prog (oExt x10 1) w5 fun _ w6 =>
 pN Tryd.prog (oExt x10 2) w6 fun x13 w7 =>
 pN Tryd.prog (oFld 24 x1 2) w7 fun x14 w8 =>
 pN Tryd.prog (oLoad 3 x14) w8 fun x15 w9 =>
 pN Tryd.prog (oBin .eql 3 (.tmp 15) (.const (.int .i64 2)) x15 (.int .i64 2)) w9 fun x16 w10 =>
 ∃ I14 : World → Prop,
 (∃ I6 : Value → World → Prop,
 (pN Tryd.prog (oFld 24 x1 2) w10 fun x18 w11 =>
 pN Tryd.prog (oLoad 3 x18) w11 fun x19 w12 =>
 pN Tryd.prog (oBin .lss 3 (.tmp 19) (.const (.int .i64 0)) x19 (.int .i64 0)) w12 fun x20 w13 =>
 pGd (gB x20 false) (pN Tryd.prog (oFld 24 x1 2) w13) w13 fun x22 w14 =>
 pGd (gB x20 false) (pN Tryd.prog (oLoad 3 x22) w14) w14 fun x23 w15 =>
 pGd (gB x20 false) (pN Tryd.prog (oBin .geq 3 (.tmp 23) (.const (.int .i64 3)) x23 (.int .i64 3)) w15) w15 fun x24 w16 =>
 pN Tryd.prog (oPick x20 (.bool true) x24) w16 fun x25 w17 =>
 pIf x25
 (I6 x25 w17)
 (pN Tryd.prog (oUn .not x16) w17 fun x27 w18 =>
 pGd (gB x27 true) (pN Tryd.prog (oFld 24 x1 1) w18) w18 fun x29 w19 =>
 pGd (gB x27 true) (pN Tryd.prog (oLoad 9 x29) w19) w19 fun x30 w20 =>
 pGd (gB x27 true) (pN Tryd.prog (oBin .neq 9 (.tmp 30) (.const (.string ⟨#[]⟩)) x30 (.string ⟨#[]⟩)) w20) w20 fun x31 w21 =>
 pN Tryd.prog (oPick x27 x31 (.bool false)) w21 fun x32 w22 =>
 pIf x32
 (I6 x32 w22)
 (pN Tryd.prog (oFld 24 x1 2) w22 fun x33 w23 =>
 pN Tryd.prog (oLoad 3 x33) w23 fun x34 w24 =>
 pN Tryd.prog (oBin .neq 3 (.tmp 34) (.const (.int .i64 0)) x34 (.int .i64 0)) w24 fun x35 w25 =>
 pGd (gB x35 true) (pN Tryd.prog (oFld 24 x1 5) w25) w25 fun x37 w26 =>
 pGd (gB x35 true) (pN Tryd.prog (oLoad 22 x37) w26) w26 fun x38 w27 =>
 pGd (gB x35 true) (pN Tryd.prog (oBi .len #[22] 3 [false] [x38]) w27) w27 fun x39 w28 =>
 pGd (gB x35 true) (pN Tryd.prog (oBin .gtr 3 (.tmp 39) (.const (.int .i64 0)) x39 (.int .i64 0)) w28) w28 fun x40 w29 =>
 pN Tryd.prog (oPick x35 x40 (.bool false)) w29 fun x41 w30 =>
 I6 x41 w30))) ∧
 ∀ (_j6 : Env) (v17c6 : Value) (w31 : World), I6 v17c6 w31 →
 pIf v17c6
 (Q (.int .i64 6) w31)
 (∃ I9 : Value → World → Prop,
 (pN Tryd.prog (oUn .not x13) w31 fun x44 w32 =>
 pIf x44
 (I9 x44 w32)
 (pGd (gB x16 true) (pN Tryd.prog (oFld 24 x1 1) w32) w32 fun x47 w33 =>
 pGd (gB x16 true) (pN Tryd.prog (oLoad 9 x47) w33) w33 fun x48 w34 =>
 pGd (gB x16 true) (pN Tryd.prog (oBin .eql 9 (.tmp 48) (.const (.string ⟨#[]⟩)) x48 (.string ⟨#[]⟩)) w34) w34 fun x49 w35 =>
 pGd (gB x16 true) (pN Tryd.prog (oMv x49) w35) w35 fun x50 w36 =>
 pGd (gB x50 false) (pN Tryd.prog (oFld 24 x1 1) w36) w36 fun x51 w37 =>
 pGd (gB x50 false) (pN Tryd.prog (oLoad 9 x51) w37) w37 fun x52 w38 =>
 pGd (gB x50 false) (pN Tryd.prog (oBi .len #[9] 3 [false] [x52]) w38) w38 fun x53 w39 =>
 pGd (gB x50 false) (pN Tryd.prog (oBin .gtr 3 (.tmp 53) (.const (.int .i64 100)) x53 (.int .i64 100)) w39) w39 fun x54 w40 =>
 pGd (gB x16 true) (pN Tryd.prog (oPick x50 (.bool true) x54) w40) w40 fun x55 w41 =>
 pGd (gB x16 true) (pN Tryd.prog (oMv x55) w41) w41 fun x56 w42 =>
 pGd (gB x56 false) (pN Tryd.prog (oFld 24 x1 1) w42) w42 fun x57 w43 =>
 pGd (gB x56 false) (pN Tryd.prog (oLoad 9 x57) w43) w43 fun x58 w44 =>
 pGd (gB x56 false) (pN Tryd.prog (oCall 44 [x58, (bv 0)]) w44) w44 fun x59 w45 =>
 pGd (gB x56 false) (pN Tryd.prog (oBin .geq 3 (.tmp 59) (.const (.int .i64 0)) x59 (.int .i64 0)) w45) w45 fun x60 w46 =>
 pGd (gB x16 true) (pN Tryd.prog (oPick x56 (.bool true) x60) w46) w46 fun x61 w47 =>
 pN Tryd.prog (oPick x16 x61 (.bool false)) w47 fun x62 w48 =>
 I9 x62 w48)) ∧
 ∀ (_j9 : Env) (v42c9 : Value) (w49 : World), I9 v42c9 w49 →
 pIf v42c9
 (Q (.int .i64 8) w49)
 (∃ I13 : Value → World → Prop,
 (pN Tryd.prog (oFld 24 x1 3) w49 fun x64 w50 =>
 pN Tryd.prog (oLoad 3 x64) w50 fun x65 w51 =>
 pN Tryd.prog (oBin .lss 3 (.tmp 65) (.const (.int .i64 0)) x65 (.int .i64 0)) w51 fun x66 w52 =>
 pGd (gB x66 false) (pN Tryd.prog (oFld 24 x1 3) w52) w52 fun x68 w53 =>
 pGd (gB x66 false) (pN Tryd.prog (oLoad 3 x68) w53) w53 fun x69 w54 =>
 pGd (gB x66 false) (pN Tryd.prog (oBin .geq 3 (.tmp 69) (.const (.int .i64 4096)) x69 (.int .i64 4096)) w54) w54 fun x70 w55 =>
 pN Tryd.prog (oPick x66 (.bool true) x70) w55 fun x71 w56 =>
 pIf x71
 (I13 x71 w56)
 (pN Tryd.prog (oFld 24 x1 4) w56 fun x72 w57 =>
 pN Tryd.prog (oLoad 3 x72) w57 fun x73 w58 =>
 pN Tryd.prog (oBin .lss 3 (.tmp 73) (.const (.int .i64 0)) x73 (.int .i64 0)) w58 fun x74 w59 =>
 pGd (gB x74 false) (pN Tryd.prog (oFld 24 x1 4) w59) w59 fun x76 w60 =>
 pGd (gB x74 false) (pN Tryd.prog (oLoad 3 x76) w60) w60 fun x77 w61 =>
 pGd (gB x74 false) (pN Tryd.prog (oBin .geq 3 (.tmp 77) (.const (.int .i64 8589934592)) x77 (.int .i64 8589934592)) w61) w61 fun x78 w62 =>
 pN Tryd.prog (oPick x74 (.bool true) x78) w62 fun x79 w63 =>
 pIf x79
 (I13 x79 w63)
 (pN Tryd.prog (oFld 24 x1 5) w63 fun x80 w64 =>
 pN Tryd.prog (oLoad 22 x80) w64 fun x81 w65 =>
 pN Tryd.prog (oBi .len #[22] 3 [false] [x81]) w65 fun x82 w66 =>
 pN Tryd.prog (oBin .geq 3 (.tmp 82) (.const (.int .i64 8589934592)) x82 (.int .i64 8589934592)) w66 fun x83 w67 =>
 I13 x83 w67))) ∧
 ∀ (_j13 : Env) (v63c13 : Value) (w68 : World), I13 v63c13 w68 →
 pIf v63c13
 (Q (.int .i64 7) w68)
 (I14 w68)))) ∧
 ∀ (_j14 : Env) (w69 : World), I14 w69 →
 Q (.int .i64 0) w69
noncomputable def tar_wrong.c : Code := match Tryd.f26.body with | some c => c | none => .skip
theorem tar_wrong.eq [Pan] (x0 : Value) (w : World) (Q : Value → World → Prop) : cw Tryd.prog tar_wrong.H tar_wrong.c (endQ Tryd.prog Tryd.f26.results.toList Q) (argsE [x0]) w = tar_wrong.F x0 w Q := by kernel_rfl
theorem tar_wrong.calls [Pan] {x0 : Value} {w : World} {Q : Value → World → Prop} (h : tar_wrong.F x0 w Q) : Calls Tryd.prog 26 #[x0] w (retP Q) :=
  calls_of_cw (H := tar_wrong.H) (c := tar_wrong.c) (args := [x0]) mixed Tryd.func26 (by kernel_rfl) (by kernel_rfl) (Nat.le_of_ble_eq_true (by kernel_rfl)) ((tar_wrong.eq x0 w Q).mpr h)

/-! tar_header: pith/tar.header; temporaries: 0:h 1:h 3:b 4:_ 5:f -/
def tar_header.H : Hints := { cut := fun  | _ => none, loop := fun | 3 => ([9], 134217248) | _ => ([], 0), order := fun | 5 => [(0, 0), (1, 1), (2, 3), (3, 7), (4, 15), (5, 31), (6, 63), (7, 127), (8, 255), (9, 511), (10, 1023), (11, 2047), (12, 4095)] | 7 => [(0, 0), (1, 1), (2, 3), (3, 7), (4, 15)] | _ => [] }
def tar_header.F [Pan] (x0 : Value) (w : World) (Q : Value → World → Prop) : Prop :=
 pN Tryd.prog (oMk 22 (.int .i64 512) (.int .i64 512)) w fun x6 w1 =>
 pN Tryd.prog (oCall 31 []) w1 fun x7 w2 =>
 pN Tryd.prog (oBi .len #[69] 3 [false] [x7]) w2 fun x8 w3 =>
 ∃ (L3 : Value → World → Prop) (m3 : Value → World → Nat),
 L3 (.int .i64 0) w3 ∧
 ∀ (_k3 : Env) (v9l3 : Value) (w4 : World), L3 v9l3 w4 →
 pN Tryd.prog (oBin .lss 3 (.tmp 9) (.tmp 8) v9l3 x8) w4 fun x10 w5 =>
 pIf x10
 (pN Tryd.prog (oIdx 69 x7 v9l3) w5 fun x11 w6 =>
 pN Tryd.prog (oLoad 73 x11) w6 fun x12 w7 =>
 pN Tryd.prog (oAlloc 73) w7 fun x5 w8 =>
 pN Tryd.prog (oStore 73 x5 x12) w8 fun _ w9 =>
 pDr w9 fun w10 =>
 pA Tryd.prog (oFld 73 x5 2) fun x13 =>
 pL Tryd.prog (oLoad 71 x13) w10 fun x14 =>
 pA Tryd.prog (oFld 73 x5 0) fun x16 =>
 pL Tryd.prog (oLoad 3 x16) w10 fun x17 =>
 pA Tryd.prog (oFld 73 x5 0) fun x18 =>
 pL Tryd.prog (oLoad 3 x18) w10 fun x19 =>
 pA Tryd.prog (oFld 73 x5 1) fun x20 =>
 pL Tryd.prog (oLoad 3 x20) w10 fun x21 =>
 pA Tryd.prog (oBin .add 3 (.tmp 19) (.tmp 21) x19 x21) fun x22 =>
 pA Tryd.prog (oSl 22 x6 (some x17) (some x22) none) fun x23 =>
 pN Tryd.prog (oCallV x14 [x23, x0]) w10 fun _ w11 =>
 (True) ∧ (pN Tryd.prog (oBin .add 3 (.tmp 9) (.const (.int .i64 1)) v9l3 (.int .i64 1)) w11 fun x26 w12 =>
 (L3 x26 w12 ∧ m3 x26 w12 < m3 v9l3 w4)))
 (pDr w5 fun w13 =>
 pA Tryd.prog (oSl 22 x6 (some (.int .i64 148)) none none) fun x28 =>
 pN Tryd.prog (oCall 30 [x6]) w13 fun x30 w14 =>
 (True) ∧ (pN Tryd.prog (oBi .copy #[22, 22] 3 [false, false] [x28, x30]) w14 fun _ w15 =>
 (True) ∧ (Q x6 w15)))
noncomputable def tar_header.c : Code := match Tryd.f27.body with | some c => c | none => .skip
theorem tar_header.eq [Pan] (x0 : Value) (w : World) (Q : Value → World → Prop) : cw Tryd.prog tar_header.H tar_header.c (endQ Tryd.prog Tryd.f27.results.toList Q) (argsE [x0]) w = tar_header.F x0 w Q := by kernel_rfl
theorem tar_header.calls [Pan] {x0 : Value} {w : World} {Q : Value → World → Prop} (h : tar_header.F x0 w Q) : Calls Tryd.prog 27 #[x0] w (retP Q) :=
  calls_of_cw (H := tar_header.H) (c := tar_header.c) (args := [x0]) mixed Tryd.func27 (by kernel_rfl) (by kernel_rfl) (Nat.le_of_ble_eq_true (by kernel_rfl)) ((tar_header.eq x0 w Q).mpr h)

/-! tar_pad: pith/tar.pad; temporaries: 0:n 1:n -/
def tar_pad.H : Hints := { cut := fun  | _ => none, loop := fun  | _ => ([], 0), order := fun  | _ => [] }
def tar_pad.F [Pan] (x0 : Value) (w : World) (Q : Value → World → Prop) : Prop :=
 pN Tryd.prog (oBin .rem 3 (.tmp 3) (.const (.int .i64 512)) x0 (.int .i64 512)) w fun x4 w1 =>
 pN Tryd.prog (oBin .sub 3 (.const (.int .i64 512)) (.tmp 4) (.int .i64 512) x4) w1 fun x5 w2 =>
 pN Tryd.prog (oBin .rem 3 (.tmp 5) (.const (.int .i64 512)) x5 (.int .i64 512)) w2 fun x6 w3 =>
 Q x6 w3
noncomputable def tar_pad.c : Code := match Tryd.f28.body with | some c => c | none => .skip
theorem tar_pad.eq [Pan] (x0 : Value) (w : World) (Q : Value → World → Prop) : cw Tryd.prog tar_pad.H tar_pad.c (endQ Tryd.prog Tryd.f28.results.toList Q) (argsE [x0]) w = tar_pad.F x0 w Q := by kernel_rfl
theorem tar_pad.calls [Pan] {x0 : Value} {w : World} {Q : Value → World → Prop} (h : tar_pad.F x0 w Q) : Calls Tryd.prog 28 #[x0] w (retP Q) :=
  calls_of_cw (H := tar_pad.H) (c := tar_pad.c) (args := [x0]) mixed Tryd.func28 (by kernel_rfl) (by kernel_rfl) (Nat.le_of_ble_eq_true (by kernel_rfl)) ((tar_pad.eq x0 w Q).mpr h)

/-! tar_sum: pith/tar.sum; temporaries: 0:b 1:b 3:n 4:i 5:c 6:f -/
def tar_sum.H : Hints := { cut := fun | 7 => some ([5], 2064416) | 8 => some ([3], 33550392) | _ => none, loop := fun | 3 => ([3, 10], 67107896) | _ => ([], 0), order := fun  | _ => [] }
def tar_sum.F [Pan] (x0 : Value) (w : World) (Q : Value → World → Prop) : Prop :=
 pN Tryd.prog (oSl 22 x0 none (some (.int .i64 512)) none) w fun x8 w1 =>
 pN Tryd.prog (oBi .len #[22] 3 [false] [x8]) w1 fun x9 w2 =>
 ∃ (L3 : Value → Value → World → Prop) (m3 : Value → Value → World → Nat),
 L3 (.int .i64 0) (.int .i64 0) w2 ∧
 ∀ (_k3 : Env) (n3l3 : Value) (v10l3 : Value) (w3 : World), L3 n3l3 v10l3 w3 →
 pN Tryd.prog (oBin .lss 3 (.tmp 10) (.tmp 9) v10l3 x9) w3 fun x11 w4 =>
 pIf x11
 (∃ I8 : Value → World → Prop,
 (pN Tryd.prog (oIdx 22 x8 v10l3) w4 fun x13 w5 =>
 pN Tryd.prog (oLoad 5 x13) w5 fun x14 w6 =>
 ∃ I7 : Value → World → Prop,
 (pN Tryd.prog (oBin .geq 3 (.tmp 15) (.const (.int .i64 148)) v10l3 (.int .i64 148)) w6 fun x16 w7 =>
 pGd (gB x16 true) (pN Tryd.prog (oMv v10l3) w7) w7 fun x18 w8 =>
 pGd (gB x16 true) (pN Tryd.prog (oBin .lss 3 (.tmp 18) (.const (.int .i64 156)) x18 (.int .i64 156)) w8) w8 fun x19 w9 =>
 pN Tryd.prog (oPick x16 x19 (.bool false)) w9 fun x20 w10 =>
 pIf x20
 (I7 (bv 32) w10)
 (I7 x14 w10)) ∧
 ∀ (_j7 : Env) (c5c7 : Value) (w11 : World), I7 c5c7 w11 →
 pN Tryd.prog (oConv 5 3 c5c7) w11 fun x23 w12 =>
 pN Tryd.prog (oBin .add 3 (.tmp 21) (.tmp 23) n3l3 x23) w12 fun x24 w13 =>
 I8 x24 w13) ∧
 ∀ (_j8 : Env) (n3c8 : Value) (w14 : World), I8 n3c8 w14 →
 pN Tryd.prog (oBin .add 3 (.tmp 10) (.const (.int .i64 1)) v10l3 (.int .i64 1)) w14 fun x25 w15 =>
 (L3 n3c8 x25 w15 ∧ m3 n3c8 x25 w15 < m3 n3l3 v10l3 w3))
 (pN Tryd.prog (oMk 22 (.int .i64 8) (.int .i64 8)) w4 fun x26 w16 =>
 pN Tryd.prog (oSl 22 x26 none (some (.int .i64 7)) none) w16 fun x28 w17 =>
 pN Tryd.prog (oCall 45 [x28, n3l3]) w17 fun _ w18 =>
 pN Tryd.prog (oIdx 22 x26 (.int .i64 7)) w18 fun x32 w19 =>
 pN Tryd.prog (oStore 5 x32 (bv 32)) w19 fun _ w20 =>
 Q x26 w20)
noncomputable def tar_sum.c : Code := match Tryd.f30.body with | some c => c | none => .skip
theorem tar_sum.eq [Pan] (x0 : Value) (w : World) (Q : Value → World → Prop) : cw Tryd.prog tar_sum.H tar_sum.c (endQ Tryd.prog Tryd.f30.results.toList Q) (argsE [x0]) w = tar_sum.F x0 w Q := by kernel_rfl
theorem tar_sum.calls [Pan] {x0 : Value} {w : World} {Q : Value → World → Prop} (h : tar_sum.F x0 w Q) : Calls Tryd.prog 30 #[x0] w (retP Q) :=
  calls_of_cw (H := tar_sum.H) (c := tar_sum.c) (args := [x0]) mixed Tryd.func30 (by kernel_rfl) (by kernel_rfl) (Nat.le_of_ble_eq_true (by kernel_rfl)) ((tar_sum.eq x0 w Q).mpr h)

/-! tar_fields: pith/tar.fields; temporaries:  -/
def tar_fields.H : Hints := { cut := fun  | _ => none, loop := fun  | _ => ([], 0), order := fun  | _ => [] }
def tar_fields.F [Pan]  (w : World) (Q : Value → World → Prop) : Prop :=
 pN Tryd.prog (oBuild 73 [(0, (.int .i64 0)), (1, (.int .i64 100)), (2, (.func (.func 46) #[] #[])), (3, (.func (.func 47) #[] #[]))]) w fun x1 w1 =>
 pN Tryd.prog (oBuild 73 [(0, (.int .i64 100)), (1, (.int .i64 8)), (2, (.func (.func 49) #[] #[])), (3, (.func (.func 50) #[] #[]))]) w1 fun x2 w2 =>
 pN Tryd.prog (oBuild 73 [(0, (.int .i64 108)), (1, (.int .i64 8)), (2, (.func (.func 52) #[] #[])), (3, .nilFunc)]) w2 fun x3 w3 =>
 pN Tryd.prog (oBuild 73 [(0, (.int .i64 116)), (1, (.int .i64 8)), (2, (.func (.func 52) #[] #[])), (3, .nilFunc)]) w3 fun x4 w4 =>
 pN Tryd.prog (oBuild 73 [(0, (.int .i64 124)), (1, (.int .i64 12)), (2, (.func (.func 53) #[] #[])), (3, (.func (.func 54) #[] #[]))]) w4 fun x5 w5 =>
 pN Tryd.prog (oBuild 73 [(0, (.int .i64 136)), (1, (.int .i64 12)), (2, (.func (.func 55) #[] #[])), (3, (.func (.func 56) #[] #[]))]) w5 fun x6 w6 =>
 pN Tryd.prog (oBuild 73 [(0, (.int .i64 156)), (1, (.int .i64 1)), (2, (.func (.func 57) #[] #[])), (3, (.func (.func 58) #[] #[]))]) w6 fun x7 w7 =>
 pN Tryd.prog (oBuild 73 [(0, (.int .i64 157)), (1, (.int .i64 100)), (2, (.func (.func 59) #[] #[])), (3, (.func (.func 60) #[] #[]))]) w7 fun x8 w8 =>
 pN Tryd.prog (oBuild 73 [(0, (.int .i64 257)), (1, (.int .i64 8)), (2, (.func (.func 61) #[] #[])), (3, .nilFunc)]) w8 fun x9 w9 =>
 pN Tryd.prog (oBuild 73 [(0, (.int .i64 329)), (1, (.int .i64 8)), (2, (.func (.func 52) #[] #[])), (3, .nilFunc)]) w9 fun x10 w10 =>
 pN Tryd.prog (oBuild 73 [(0, (.int .i64 337)), (1, (.int .i64 8)), (2, (.func (.func 52) #[] #[])), (3, .nilFunc)]) w10 fun x11 w11 =>
 pN Tryd.prog (oBuild 73 [(0, (.int .i64 345)), (1, (.int .i64 155)), (2, (.func (.func 62) #[] #[])), (3, (.func (.func 63) #[] #[]))]) w11 fun x12 w12 =>
 pN Tryd.prog (oBs 69 12 [(0, x1), (1, x2), (2, x3), (3, x4), (4, x5), (5, x6), (6, x7), (7, x8), (8, x9), (9, x10), (10, x11), (11, x12)]) w12 fun x13 w13 =>
 Q x13 w13
noncomputable def tar_fields.c : Code := match Tryd.f31.body with | some c => c | none => .skip
theorem tar_fields.eq [Pan]  (w : World) (Q : Value → World → Prop) : cw Tryd.prog tar_fields.H tar_fields.c (endQ Tryd.prog Tryd.f31.results.toList Q) (argsE []) w = tar_fields.F  w Q := by kernel_rfl
theorem tar_fields.calls [Pan]  {w : World} {Q : Value → World → Prop} (h : tar_fields.F  w Q) : Calls Tryd.prog 31 #[] w (retP Q) :=
  calls_of_cw (H := tar_fields.H) (c := tar_fields.c) (args := []) mixed Tryd.func31 (by kernel_rfl) (by kernel_rfl) (Nat.le_of_ble_eq_true (by kernel_rfl)) ((tar_fields.eq  w Q).mpr h)

/-! tar_zero: pith/tar.zero; temporaries: 0:b 1:b -/
def tar_zero.H : Hints := { cut := fun  | _ => none, loop := fun  | _ => ([], 0), order := fun  | _ => [] }
def tar_zero.F [Pan] (x0 : Value) (w : World) (Q : Value → World → Prop) : Prop :=
 pN Tryd.prog (oCall 64 [x0, (.string ⟨#[0]⟩)]) w fun x4 w1 =>
 pN Tryd.prog (oBi .len #[22] 3 [false] [x4]) w1 fun x5 w2 =>
 pN Tryd.prog (oBin .eql 3 (.tmp 5) (.const (.int .i64 0)) x5 (.int .i64 0)) w2 fun x6 w3 =>
 Q x6 w3
noncomputable def tar_zero.c : Code := match Tryd.f32.body with | some c => c | none => .skip
theorem tar_zero.eq [Pan] (x0 : Value) (w : World) (Q : Value → World → Prop) : cw Tryd.prog tar_zero.H tar_zero.c (endQ Tryd.prog Tryd.f32.results.toList Q) (argsE [x0]) w = tar_zero.F x0 w Q := by kernel_rfl
theorem tar_zero.calls [Pan] {x0 : Value} {w : World} {Q : Value → World → Prop} (h : tar_zero.F x0 w Q) : Calls Tryd.prog 32 #[x0] w (retP Q) :=
  calls_of_cw (H := tar_zero.H) (c := tar_zero.c) (args := [x0]) mixed Tryd.func32 (by kernel_rfl) (by kernel_rfl) (Nat.le_of_ble_eq_true (by kernel_rfl)) ((tar_zero.eq x0 w Q).mpr h)

/-! tar_Items_c1: pith/tar.Items$1; temporaries: 0:yield 2:yield 3:left 4:x 5:n 6:err -/
def tar_Items_c1.H : Hints := { cut := fun  | _ => none, loop := fun | 1 => ([3], 34359738232) | _ => ([], 0), order := fun  | _ => [] }
def tar_Items_c1.F [Pan] (x0 : Value) (x1 : Value) (w : World) (Q : Value → World → Prop) : Prop :=
 pN Tryd.prog (oLoad 22 x1) w fun x7 w1 =>
 ∃ (L1 : Value → World → Prop) (m1 : Value → World → Nat),
 L1 x7 w1 ∧
 ∀ (_k1 : Env) (left3l1 : Value) (w2 : World), L1 left3l1 w2 →
 pN Tryd.prog (oBi .len #[22] 3 [false] [left3l1]) w2 fun x9 w3 =>
 pN Tryd.prog (oBin .geq 3 (.tmp 9) (.const (.int .i64 512)) x9 (.int .i64 512)) w3 fun x10 w4 =>
 pGd (gB x10 true) (pN Tryd.prog (oMv left3l1) w4) w4 fun x12 w5 =>
 pGd (gB x10 true) (pN Tryd.prog (oSl 22 x12 none (some (.int .i64 512)) none) w5) w5 fun x13 w6 =>
 pGd (gB x10 true) (pN Tryd.prog (oCall 32 [x13]) w6) w6 fun x14 w7 =>
 pGd (gB x10 true) (pN Tryd.prog (oUn .not x14) w7) w7 fun x15 w8 =>
 pN Tryd.prog (oPick x10 x15 (.bool false)) w8 fun x16 w9 =>
 pIf x16
 (pN Tryd.prog (oCall 11 [left3l1]) w9 fun x19 w10 =>
 pN Tryd.prog (oExt x19 0) w10 fun x20 w11 =>
 pN Tryd.prog (oExt x19 1) w11 fun x21 w12 =>
 pN Tryd.prog (oExt x19 2) w12 fun x22 w13 =>
 pN Tryd.prog (oAlloc 24) w13 fun x4 w14 =>
 pN Tryd.prog (oStore 24 x4 x20) w14 fun _ w15 =>
 pN Tryd.prog (oLoad 24 x4) w15 fun x24 w16 =>
 pN Tryd.prog (oCallV x0 [x24, x22]) w16 fun x26 w17 =>
 pN Tryd.prog (oUn .not x26) w17 fun x27 w18 =>
 pGd (gB x27 false) (pN Tryd.prog (oMv x22) w18) w18 fun x29 w19 =>
 pGd (gB x27 false) (pN Tryd.prog (oBin .neq 25 (.tmp 29) (.const (.int .i64 0)) x29 (.int .i64 0)) w19) w19 fun x30 w20 =>
 pN Tryd.prog (oPick x27 (.bool true) x30) w20 fun x31 w21 =>
 pIf x31
 (Q (.tuple #[]) w21)
 (pN Tryd.prog (oSl 22 left3l1 (some x21) none none) w21 fun x34 w22 =>
 (L1 x34 w22 ∧ m1 x34 w22 < m1 left3l1 w2)))
 (pN Tryd.prog (oBi .len #[22] 3 [false] [left3l1]) w9 fun x37 w23 =>
 pN Tryd.prog (oBin .lss 3 (.tmp 37) (.const (.int .i64 1024)) x37 (.int .i64 1024)) w23 fun x38 w24 =>
 pIf x38
 (pN Tryd.prog (oBuild 24 []) w24 fun x40 w25 =>
 pN Tryd.prog (oCallV x0 [x40, (.int .i64 1)]) w25 fun _ w26 =>
 Q (.tuple #[]) w26)
 (pN Tryd.prog (oBi .len #[22] 3 [false] [left3l1]) w24 fun x44 w27 =>
 pN Tryd.prog (oBin .gtr 3 (.tmp 44) (.const (.int .i64 1024)) x44 (.int .i64 1024)) w27 fun x45 w28 =>
 pGd (gB x45 false) (pN Tryd.prog (oMv left3l1) w28) w28 fun x47 w29 =>
 pGd (gB x45 false) (pN Tryd.prog (oCall 32 [x47]) w29) w29 fun x48 w30 =>
 pGd (gB x45 false) (pN Tryd.prog (oUn .not x48) w30) w30 fun x49 w31 =>
 pN Tryd.prog (oPick x45 (.bool true) x49) w31 fun x50 w32 =>
 pIf x50
 (pN Tryd.prog (oBuild 24 []) w32 fun x52 w33 =>
 pN Tryd.prog (oCallV x0 [x52, (.int .i64 2)]) w33 fun _ w34 =>
 Q (.tuple #[]) w34)
 (Q (.tuple #[]) w32)))
noncomputable def tar_Items_c1.c : Code := match Tryd.f42.body with | some c => c | none => .skip
theorem tar_Items_c1.eq [Pan] (x0 : Value) (x1 : Value) (w : World) (Q : Value → World → Prop) : cw Tryd.prog tar_Items_c1.H tar_Items_c1.c (endQ Tryd.prog Tryd.f42.results.toList Q) (argsE [x0, x1]) w = tar_Items_c1.F x0 x1 w Q := by kernel_rfl
theorem tar_Items_c1.calls [Pan] {x0 : Value} {x1 : Value} {w : World} {Q : Value → World → Prop} (h : tar_Items_c1.F x0 x1 w Q) : Calls Tryd.prog 42 #[x0, x1] w (retP Q) :=
  calls_of_cw (H := tar_Items_c1.H) (c := tar_Items_c1.c) (args := [x0, x1]) mixed Tryd.func42 (by kernel_rfl) (by kernel_rfl) (Nat.le_of_ble_eq_true (by kernel_rfl)) ((tar_Items_c1.eq x0 x1 w Q).mpr h)

/-! tar_parted: pith/tar.parted; temporaries: 0:name 1:name 5:i -/
def tar_parted.H : Hints := { cut := fun  | _ => none, loop := fun | 6 => ([5], 281474972516412) | _ => ([], 0), order := fun | 9 => [(0, 0), (1, 1), (2, 3), (3, 7), (4, 15), (5, 31), (6, 63), (7, 127), (8, 255), (9, 511), (10, 1023), (11, 2047), (12, 4095), (13, 8191), (14, 16383), (15, 32767), (16, 65535), (17, 131071), (18, 262143)] | _ => [] }
def tar_parted.F [Pan] (x0 : Value) (w : World) (Q : Value → World → Prop) : Prop :=
 pN Tryd.prog (oBin .eql 9 (.tmp 6) (.const (.string ⟨#[]⟩)) x0 (.string ⟨#[]⟩)) w fun x7 w1 =>
 pGd (gB x7 false) (pN Tryd.prog (oMv x0) w1) w1 fun x9 w2 =>
 pGd (gB x7 false) (pN Tryd.prog (oCall 44 [x9, (bv 0)]) w2) w2 fun x10 w3 =>
 pGd (gB x7 false) (pN Tryd.prog (oBin .geq 3 (.tmp 10) (.const (.int .i64 0)) x10 (.int .i64 0)) w3) w3 fun x11 w4 =>
 pN Tryd.prog (oPick x7 (.bool true) x11) w4 fun x12 w5 =>
 pIf x12
 (Q (.tuple #[(.string ⟨#[]⟩), (.string ⟨#[]⟩), (.bool false)]) w5)
 (pN Tryd.prog (oBi .len #[9] 3 [false] [x0]) w5 fun x14 w6 =>
 pN Tryd.prog (oBin .leq 3 (.tmp 14) (.const (.int .i64 100)) x14 (.int .i64 100)) w6 fun x15 w7 =>
 pIf x15
 (Q (.tuple #[(.string ⟨#[]⟩), x0, (.bool true)]) w7)
 (pN Tryd.prog (oBi .len #[9] 3 [false] [x0]) w7 fun x18 w8 =>
 pN Tryd.prog (oBin .sub 3 (.tmp 18) (.const (.int .i64 1)) x18 (.int .i64 1)) w8 fun x19 w9 =>
 pN Tryd.prog (oBin .sub 3 (.tmp 19) (.const (.int .i64 100)) x19 (.int .i64 100)) w9 fun x20 w10 =>
 pN Tryd.prog (oBi .max #[3, 3] 3 [true, false] [(.int .i64 1), x20]) w10 fun x21 w11 =>
 ∃ (L6 : Value → World → Prop) (m6 : Value → World → Nat),
 L6 x21 w11 ∧
 ∀ (_k6 : Env) (i5l6 : Value) (w12 : World), L6 i5l6 w12 →
 pN Tryd.prog (oBi .len #[9] 3 [false] [x0]) w12 fun x24 w13 =>
 pN Tryd.prog (oBin .lss 3 (.tmp 22) (.tmp 24) i5l6 x24) w13 fun x25 w14 =>
 pIf x25
 (pN Tryd.prog (oIndex 9 x0 i5l6) w14 fun x30 w15 =>
 pN Tryd.prog (oBin .eql 5 (.tmp 30) (.const (.int .u8 47)) x30 (bv 47)) w15 fun x31 w16 =>
 pIf x31
 (pDr w16 fun w17 =>
 pA Tryd.prog (oSl 9 x0 none (some i5l6) none) fun x34 =>
 pA Tryd.prog (oBin .add 3 (.tmp 36) (.const (.int .i64 1)) i5l6 (.int .i64 1)) fun x37 =>
 pA Tryd.prog (oSl 9 x0 (some x37) none none) fun x38 =>
 pA Tryd.prog (oBin .leq 3 (.tmp 39) (.const (.int .i64 155)) i5l6 (.int .i64 155)) fun x40 =>
 gA (gB x40 true) (pA Tryd.prog (oMv i5l6)) fun x42 =>
 gA (gB x40 true) (pA Tryd.prog (oBin .add 3 (.tmp 42) (.const (.int .i64 1)) x42 (.int .i64 1))) fun x43 =>
 gA (gB x40 true) (pA Tryd.prog (oMv x0)) fun x44 =>
 gA (gB x40 true) (pA Tryd.prog (oBi .len #[9] 3 [false] [x44])) fun x45 =>
 gA (gB x40 true) (pA Tryd.prog (oBin .lss 3 (.tmp 43) (.tmp 45) x43 x45)) fun x46 =>
 pA Tryd.prog (oPick x40 x46 (.bool false)) fun x47 =>
 Q (.tuple #[x34, x38, x47]) w17)
 (pN Tryd.prog (oBin .add 3 (.tmp 26) (.const (.int .i64 1)) i5l6 (.int .i64 1)) w16 fun x27 w18 =>
 (L6 x27 w18 ∧ m6 x27 w18 < m6 i5l6 w12)))
 (Q (.tuple #[(.string ⟨#[]⟩), (.string ⟨#[]⟩), (.bool false)]) w14)))
noncomputable def tar_parted.c : Code := match Tryd.f43.body with | some c => c | none => .skip
theorem tar_parted.eq [Pan] (x0 : Value) (w : World) (Q : Value → World → Prop) : cw Tryd.prog tar_parted.H tar_parted.c (endQ Tryd.prog Tryd.f43.results.toList Q) (argsE [x0]) w = tar_parted.F x0 w Q := by kernel_rfl
theorem tar_parted.calls [Pan] {x0 : Value} {w : World} {Q : Value → World → Prop} (h : tar_parted.F x0 w Q) : Calls Tryd.prog 43 #[x0] w (retP Q) :=
  calls_of_cw (H := tar_parted.H) (c := tar_parted.c) (args := [x0]) mixed Tryd.func43 (by kernel_rfl) (by kernel_rfl) (Nat.le_of_ble_eq_true (by kernel_rfl)) ((tar_parted.eq x0 w Q).mpr h)

/-! tar_octal: pith/tar.octal; temporaries: 0:b 1:v 2:b 3:v 4:i -/
def tar_octal.H : Hints := { cut := fun  | _ => none, loop := fun | 1 => ([1, 4], 2096914) | _ => ([], 0), order := fun  | _ => [] }
def tar_octal.F [Pan] (x0 : Value) (x1 : Value) (w : World) (Q : Value → World → Prop) : Prop :=
 pN Tryd.prog (oBi .len #[22] 3 [false] [x0]) w fun x6 w1 =>
 pN Tryd.prog (oBin .sub 3 (.tmp 6) (.const (.int .i64 2)) x6 (.int .i64 2)) w1 fun x7 w2 =>
 ∃ (L1 : Value → Value → World → Prop) (m1 : Value → Value → World → Nat),
 L1 x1 x7 w2 ∧
 ∀ (_k1 : Env) (v1l1 : Value) (i4l1 : Value) (w3 : World), L1 v1l1 i4l1 w3 →
 pN Tryd.prog (oBin .geq 3 (.tmp 8) (.const (.int .i64 0)) i4l1 (.int .i64 0)) w3 fun x9 w4 =>
 pIf x9
 (pN Tryd.prog (oBin .and 3 (.tmp 14) (.const (.int .i64 7)) v1l1 (.int .i64 7)) w4 fun x15 w5 =>
 pN Tryd.prog (oConv 3 5 x15) w5 fun x16 w6 =>
 pN Tryd.prog (oBin .add 5 (.const (.int .u8 48)) (.tmp 16) (bv 48) x16) w6 fun x17 w7 =>
 pN Tryd.prog (oIdx 22 x0 i4l1) w7 fun x18 w8 =>
 pN Tryd.prog (oStore 5 x18 x17) w8 fun _ w9 =>
 pN Tryd.prog (oBin .shr 3 (.tmp 19) (.const (.int .u64 3)) v1l1 (.int .u64 3)) w9 fun x20 w10 =>
 pN Tryd.prog (oBin .sub 3 (.tmp 10) (.const (.int .i64 1)) i4l1 (.int .i64 1)) w10 fun x11 w11 =>
 (L1 x20 x11 w11 ∧ m1 x20 x11 w11 < m1 v1l1 i4l1 w3))
 (Q (.tuple #[]) w4)
noncomputable def tar_octal.c : Code := match Tryd.f45.body with | some c => c | none => .skip
theorem tar_octal.eq [Pan] (x0 : Value) (x1 : Value) (w : World) (Q : Value → World → Prop) : cw Tryd.prog tar_octal.H tar_octal.c (endQ Tryd.prog Tryd.f45.results.toList Q) (argsE [x0, x1]) w = tar_octal.F x0 x1 w Q := by kernel_rfl
theorem tar_octal.calls [Pan] {x0 : Value} {x1 : Value} {w : World} {Q : Value → World → Prop} (h : tar_octal.F x0 x1 w Q) : Calls Tryd.prog 45 #[x0, x1] w (retP Q) :=
  calls_of_cw (H := tar_octal.H) (c := tar_octal.c) (args := [x0, x1]) mixed Tryd.func45 (by kernel_rfl) (by kernel_rfl) (Nat.le_of_ble_eq_true (by kernel_rfl)) ((tar_octal.eq x0 x1 w Q).mpr h)

/-! tar_fields_c1: pith/tar.fields$1; temporaries: 0:b 1:h 2:b 3:h 4:_ 5:r 6:_ -/
def tar_fields_c1.H : Hints := { cut := fun  | _ => none, loop := fun  | _ => ([], 0), order := fun  | _ => [] }
def tar_fields_c1.F [Pan] (x0 : Value) (x1 : Value) (w : World) (Q : Value → World → Prop) : Prop :=
 pN Tryd.prog (oNil x1) w fun x9 w1 =>
 pN Tryd.prog (oFld 65 x9 0) w1 fun x10 w2 =>
 pN Tryd.prog (oFld 24 x10 0) w2 fun x11 w3 =>
 pN Tryd.prog (oLoad 9 x11) w3 fun x12 w4 =>
 pN Tryd.prog (oCall 43 [x12]) w4 fun x13 w5 =>
 pN Tryd.prog (oExt x13 0) w5 fun _ w6 =>
 pN Tryd.prog (oExt x13 1) w6 fun x15 w7 =>
 pN Tryd.prog (oExt x13 2) w7 fun _ w8 =>
 pN Tryd.prog (oBi .copy #[22, 9] 3 [false, false] [x0, x15]) w8 fun _ w9 =>
 Q (.tuple #[]) w9
noncomputable def tar_fields_c1.c : Code := match Tryd.f46.body with | some c => c | none => .skip
theorem tar_fields_c1.eq [Pan] (x0 : Value) (x1 : Value) (w : World) (Q : Value → World → Prop) : cw Tryd.prog tar_fields_c1.H tar_fields_c1.c (endQ Tryd.prog Tryd.f46.results.toList Q) (argsE [x0, x1]) w = tar_fields_c1.F x0 x1 w Q := by kernel_rfl
theorem tar_fields_c1.calls [Pan] {x0 : Value} {x1 : Value} {w : World} {Q : Value → World → Prop} (h : tar_fields_c1.F x0 x1 w Q) : Calls Tryd.prog 46 #[x0, x1] w (retP Q) :=
  calls_of_cw (H := tar_fields_c1.H) (c := tar_fields_c1.c) (args := [x0, x1]) mixed Tryd.func46 (by kernel_rfl) (by kernel_rfl) (Nat.le_of_ble_eq_true (by kernel_rfl)) ((tar_fields_c1.eq x0 x1 w Q).mpr h)

/-! tar_fields_c2: pith/tar.fields$2; temporaries: 0:b 1:h 2:b 3:h -/
def tar_fields_c2.H : Hints := { cut := fun  | _ => none, loop := fun  | _ => ([], 0), order := fun  | _ => [] }
def tar_fields_c2.F [Pan] (x0 : Value) (x1 : Value) (w : World) (Q : Value → World → Prop) : Prop :=
 pN Tryd.prog (oCall 48 [x0]) w fun x6 w1 =>
 pN Tryd.prog (oNil x1) w1 fun x7 w2 =>
 pN Tryd.prog (oFld 65 x7 0) w2 fun x8 w3 =>
 pN Tryd.prog (oFld 24 x8 0) w3 fun x9 w4 =>
 pN Tryd.prog (oStore 9 x9 x6) w4 fun _ w5 =>
 Q (.tuple #[]) w5
noncomputable def tar_fields_c2.c : Code := match Tryd.f47.body with | some c => c | none => .skip
theorem tar_fields_c2.eq [Pan] (x0 : Value) (x1 : Value) (w : World) (Q : Value → World → Prop) : cw Tryd.prog tar_fields_c2.H tar_fields_c2.c (endQ Tryd.prog Tryd.f47.results.toList Q) (argsE [x0, x1]) w = tar_fields_c2.F x0 x1 w Q := by kernel_rfl
theorem tar_fields_c2.calls [Pan] {x0 : Value} {x1 : Value} {w : World} {Q : Value → World → Prop} (h : tar_fields_c2.F x0 x1 w Q) : Calls Tryd.prog 47 #[x0, x1] w (retP Q) :=
  calls_of_cw (H := tar_fields_c2.H) (c := tar_fields_c2.c) (args := [x0, x1]) mixed Tryd.func47 (by kernel_rfl) (by kernel_rfl) (Nat.le_of_ble_eq_true (by kernel_rfl)) ((tar_fields_c2.eq x0 x1 w Q).mpr h)

/-! tar_text: pith/tar.text; temporaries: 0:b 1:b 3:s 4:_ 5:_ -/
def tar_text.H : Hints := { cut := fun  | _ => none, loop := fun  | _ => ([], 0), order := fun  | _ => [] }
def tar_text.F [Pan] (x0 : Value) (w : World) (Q : Value → World → Prop) : Prop :=
 pN Tryd.prog (oBs 22 1 [(0, (bv 0))]) w fun x8 w1 =>
 pN Tryd.prog (oCall 71 [x0, x8]) w1 fun x9 w2 =>
 pN Tryd.prog (oExt x9 0) w2 fun x10 w3 =>
 pN Tryd.prog (oExt x9 1) w3 fun _ w4 =>
 pN Tryd.prog (oExt x9 2) w4 fun _ w5 =>
 pN Tryd.prog (oConv 22 9 x10) w5 fun x14 w6 =>
 Q x14 w6
noncomputable def tar_text.c : Code := match Tryd.f48.body with | some c => c | none => .skip
theorem tar_text.eq [Pan] (x0 : Value) (w : World) (Q : Value → World → Prop) : cw Tryd.prog tar_text.H tar_text.c (endQ Tryd.prog Tryd.f48.results.toList Q) (argsE [x0]) w = tar_text.F x0 w Q := by kernel_rfl
theorem tar_text.calls [Pan] {x0 : Value} {w : World} {Q : Value → World → Prop} (h : tar_text.F x0 w Q) : Calls Tryd.prog 48 #[x0] w (retP Q) :=
  calls_of_cw (H := tar_text.H) (c := tar_text.c) (args := [x0]) mixed Tryd.func48 (by kernel_rfl) (by kernel_rfl) (Nat.le_of_ble_eq_true (by kernel_rfl)) ((tar_text.eq x0 w Q).mpr h)

/-! tar_fields_c3: pith/tar.fields$3; temporaries: 0:b 1:h 2:b 3:h -/
def tar_fields_c3.H : Hints := { cut := fun  | _ => none, loop := fun  | _ => ([], 0), order := fun  | _ => [] }
def tar_fields_c3.F [Pan] (x0 : Value) (x1 : Value) (w : World) (Q : Value → World → Prop) : Prop :=
 pN Tryd.prog (oNil x1) w fun x6 w1 =>
 pN Tryd.prog (oFld 65 x6 0) w1 fun x7 w2 =>
 pN Tryd.prog (oFld 24 x7 3) w2 fun x8 w3 =>
 pN Tryd.prog (oLoad 3 x8) w3 fun x9 w4 =>
 pN Tryd.prog (oCall 45 [x0, x9]) w4 fun _ w5 =>
 Q (.tuple #[]) w5
noncomputable def tar_fields_c3.c : Code := match Tryd.f49.body with | some c => c | none => .skip
theorem tar_fields_c3.eq [Pan] (x0 : Value) (x1 : Value) (w : World) (Q : Value → World → Prop) : cw Tryd.prog tar_fields_c3.H tar_fields_c3.c (endQ Tryd.prog Tryd.f49.results.toList Q) (argsE [x0, x1]) w = tar_fields_c3.F x0 x1 w Q := by kernel_rfl
theorem tar_fields_c3.calls [Pan] {x0 : Value} {x1 : Value} {w : World} {Q : Value → World → Prop} (h : tar_fields_c3.F x0 x1 w Q) : Calls Tryd.prog 49 #[x0, x1] w (retP Q) :=
  calls_of_cw (H := tar_fields_c3.H) (c := tar_fields_c3.c) (args := [x0, x1]) mixed Tryd.func49 (by kernel_rfl) (by kernel_rfl) (Nat.le_of_ble_eq_true (by kernel_rfl)) ((tar_fields_c3.eq x0 x1 w Q).mpr h)

/-! tar_fields_c4: pith/tar.fields$4; temporaries: 0:b 1:h 2:b 3:h -/
def tar_fields_c4.H : Hints := { cut := fun  | _ => none, loop := fun  | _ => ([], 0), order := fun  | _ => [] }
def tar_fields_c4.F [Pan] (x0 : Value) (x1 : Value) (w : World) (Q : Value → World → Prop) : Prop :=
 pN Tryd.prog (oCall 51 [x0]) w fun x6 w1 =>
 pN Tryd.prog (oNil x1) w1 fun x7 w2 =>
 pN Tryd.prog (oFld 65 x7 0) w2 fun x8 w3 =>
 pN Tryd.prog (oFld 24 x8 3) w3 fun x9 w4 =>
 pN Tryd.prog (oStore 3 x9 x6) w4 fun _ w5 =>
 Q (.tuple #[]) w5
noncomputable def tar_fields_c4.c : Code := match Tryd.f50.body with | some c => c | none => .skip
theorem tar_fields_c4.eq [Pan] (x0 : Value) (x1 : Value) (w : World) (Q : Value → World → Prop) : cw Tryd.prog tar_fields_c4.H tar_fields_c4.c (endQ Tryd.prog Tryd.f50.results.toList Q) (argsE [x0, x1]) w = tar_fields_c4.F x0 x1 w Q := by kernel_rfl
theorem tar_fields_c4.calls [Pan] {x0 : Value} {x1 : Value} {w : World} {Q : Value → World → Prop} (h : tar_fields_c4.F x0 x1 w Q) : Calls Tryd.prog 50 #[x0, x1] w (retP Q) :=
  calls_of_cw (H := tar_fields_c4.H) (c := tar_fields_c4.c) (args := [x0, x1]) mixed Tryd.func50 (by kernel_rfl) (by kernel_rfl) (Nat.le_of_ble_eq_true (by kernel_rfl)) ((tar_fields_c4.eq x0 x1 w Q).mpr h)

/-! tar_number: pith/tar.number; temporaries: 0:b 1:b 3:v 4:_ 5:c -/
def tar_number.H : Hints := { cut := fun  | _ => none, loop := fun | 3 => ([3, 12], 8384552) | _ => ([], 0), order := fun  | _ => [] }
def tar_number.F [Pan] (x0 : Value) (w : World) (Q : Value → World → Prop) : Prop :=
 pN Tryd.prog (oBi .len #[22] 3 [false] [x0]) w fun x8 w1 =>
 pN Tryd.prog (oBin .sub 3 (.tmp 8) (.const (.int .i64 1)) x8 (.int .i64 1)) w1 fun x9 w2 =>
 pN Tryd.prog (oSl 22 x0 none (some x9) none) w2 fun x10 w3 =>
 pN Tryd.prog (oBi .len #[22] 3 [false] [x10]) w3 fun x11 w4 =>
 ∃ (L3 : Value → Value → World → Prop) (m3 : Value → Value → World → Nat),
 L3 (.int .i64 0) (.int .i64 0) w4 ∧
 ∀ (_k3 : Env) (v3l3 : Value) (v12l3 : Value) (w5 : World), L3 v3l3 v12l3 w5 →
 pN Tryd.prog (oBin .lss 3 (.tmp 12) (.tmp 11) v12l3 x11) w5 fun x13 w6 =>
 pIf x13
 (pN Tryd.prog (oIdx 22 x10 v12l3) w6 fun x14 w7 =>
 pN Tryd.prog (oLoad 5 x14) w7 fun x15 w8 =>
 pN Tryd.prog (oBin .shl 3 (.tmp 16) (.const (.int .u64 3)) v3l3 (.int .u64 3)) w8 fun x17 w9 =>
 pN Tryd.prog (oBin .and 5 (.tmp 18) (.const (.int .u8 7)) x15 (bv 7)) w9 fun x19 w10 =>
 pN Tryd.prog (oConv 5 3 x19) w10 fun x20 w11 =>
 pN Tryd.prog (oBin .or 3 (.tmp 17) (.tmp 20) x17 x20) w11 fun x21 w12 =>
 pN Tryd.prog (oBin .add 3 (.tmp 12) (.const (.int .i64 1)) v12l3 (.int .i64 1)) w12 fun x22 w13 =>
 (L3 x21 x22 w13 ∧ m3 x21 x22 w13 < m3 v3l3 v12l3 w5))
 (Q v3l3 w6)
noncomputable def tar_number.c : Code := match Tryd.f51.body with | some c => c | none => .skip
theorem tar_number.eq [Pan] (x0 : Value) (w : World) (Q : Value → World → Prop) : cw Tryd.prog tar_number.H tar_number.c (endQ Tryd.prog Tryd.f51.results.toList Q) (argsE [x0]) w = tar_number.F x0 w Q := by kernel_rfl
theorem tar_number.calls [Pan] {x0 : Value} {w : World} {Q : Value → World → Prop} (h : tar_number.F x0 w Q) : Calls Tryd.prog 51 #[x0] w (retP Q) :=
  calls_of_cw (H := tar_number.H) (c := tar_number.c) (args := [x0]) mixed Tryd.func51 (by kernel_rfl) (by kernel_rfl) (Nat.le_of_ble_eq_true (by kernel_rfl)) ((tar_number.eq x0 w Q).mpr h)

/-! tar_none: pith/tar.none; temporaries: 0:b 1:_ 2:b 3:_ -/
def tar_none.H : Hints := { cut := fun  | _ => none, loop := fun  | _ => ([], 0), order := fun  | _ => [] }
def tar_none.F [Pan] (x0 : Value) (x1 : Value) (w : World) (Q : Value → World → Prop) : Prop :=
 pN Tryd.prog (oCall 45 [x0, (.int .i64 0)]) w fun _ w1 =>
 Q (.tuple #[]) w1
noncomputable def tar_none.c : Code := match Tryd.f52.body with | some c => c | none => .skip
theorem tar_none.eq [Pan] (x0 : Value) (x1 : Value) (w : World) (Q : Value → World → Prop) : cw Tryd.prog tar_none.H tar_none.c (endQ Tryd.prog Tryd.f52.results.toList Q) (argsE [x0, x1]) w = tar_none.F x0 x1 w Q := by kernel_rfl
theorem tar_none.calls [Pan] {x0 : Value} {x1 : Value} {w : World} {Q : Value → World → Prop} (h : tar_none.F x0 x1 w Q) : Calls Tryd.prog 52 #[x0, x1] w (retP Q) :=
  calls_of_cw (H := tar_none.H) (c := tar_none.c) (args := [x0, x1]) mixed Tryd.func52 (by kernel_rfl) (by kernel_rfl) (Nat.le_of_ble_eq_true (by kernel_rfl)) ((tar_none.eq x0 x1 w Q).mpr h)

/-! tar_fields_c5: pith/tar.fields$5; temporaries: 0:b 1:h 2:b 3:h -/
def tar_fields_c5.H : Hints := { cut := fun  | _ => none, loop := fun  | _ => ([], 0), order := fun  | _ => [] }
def tar_fields_c5.F [Pan] (x0 : Value) (x1 : Value) (w : World) (Q : Value → World → Prop) : Prop :=
 pN Tryd.prog (oNil x1) w fun x6 w1 =>
 pN Tryd.prog (oFld 65 x6 1) w1 fun x7 w2 =>
 pN Tryd.prog (oLoad 3 x7) w2 fun x8 w3 =>
 pN Tryd.prog (oCall 45 [x0, x8]) w3 fun _ w4 =>
 Q (.tuple #[]) w4
noncomputable def tar_fields_c5.c : Code := match Tryd.f53.body with | some c => c | none => .skip
theorem tar_fields_c5.eq [Pan] (x0 : Value) (x1 : Value) (w : World) (Q : Value → World → Prop) : cw Tryd.prog tar_fields_c5.H tar_fields_c5.c (endQ Tryd.prog Tryd.f53.results.toList Q) (argsE [x0, x1]) w = tar_fields_c5.F x0 x1 w Q := by kernel_rfl
theorem tar_fields_c5.calls [Pan] {x0 : Value} {x1 : Value} {w : World} {Q : Value → World → Prop} (h : tar_fields_c5.F x0 x1 w Q) : Calls Tryd.prog 53 #[x0, x1] w (retP Q) :=
  calls_of_cw (H := tar_fields_c5.H) (c := tar_fields_c5.c) (args := [x0, x1]) mixed Tryd.func53 (by kernel_rfl) (by kernel_rfl) (Nat.le_of_ble_eq_true (by kernel_rfl)) ((tar_fields_c5.eq x0 x1 w Q).mpr h)

/-! tar_fields_c6: pith/tar.fields$6; temporaries: 0:b 1:h 2:b 3:h -/
def tar_fields_c6.H : Hints := { cut := fun  | _ => none, loop := fun  | _ => ([], 0), order := fun  | _ => [] }
def tar_fields_c6.F [Pan] (x0 : Value) (x1 : Value) (w : World) (Q : Value → World → Prop) : Prop :=
 pN Tryd.prog (oCall 51 [x0]) w fun x6 w1 =>
 pN Tryd.prog (oNil x1) w1 fun x7 w2 =>
 pN Tryd.prog (oFld 65 x7 1) w2 fun x8 w3 =>
 pN Tryd.prog (oStore 3 x8 x6) w3 fun _ w4 =>
 Q (.tuple #[]) w4
noncomputable def tar_fields_c6.c : Code := match Tryd.f54.body with | some c => c | none => .skip
theorem tar_fields_c6.eq [Pan] (x0 : Value) (x1 : Value) (w : World) (Q : Value → World → Prop) : cw Tryd.prog tar_fields_c6.H tar_fields_c6.c (endQ Tryd.prog Tryd.f54.results.toList Q) (argsE [x0, x1]) w = tar_fields_c6.F x0 x1 w Q := by kernel_rfl
theorem tar_fields_c6.calls [Pan] {x0 : Value} {x1 : Value} {w : World} {Q : Value → World → Prop} (h : tar_fields_c6.F x0 x1 w Q) : Calls Tryd.prog 54 #[x0, x1] w (retP Q) :=
  calls_of_cw (H := tar_fields_c6.H) (c := tar_fields_c6.c) (args := [x0, x1]) mixed Tryd.func54 (by kernel_rfl) (by kernel_rfl) (Nat.le_of_ble_eq_true (by kernel_rfl)) ((tar_fields_c6.eq x0 x1 w Q).mpr h)

/-! tar_fields_c7: pith/tar.fields$7; temporaries: 0:b 1:h 2:b 3:h -/
def tar_fields_c7.H : Hints := { cut := fun  | _ => none, loop := fun  | _ => ([], 0), order := fun  | _ => [] }
def tar_fields_c7.F [Pan] (x0 : Value) (x1 : Value) (w : World) (Q : Value → World → Prop) : Prop :=
 pN Tryd.prog (oNil x1) w fun x6 w1 =>
 pN Tryd.prog (oFld 65 x6 0) w1 fun x7 w2 =>
 pN Tryd.prog (oFld 24 x7 4) w2 fun x8 w3 =>
 pN Tryd.prog (oLoad 3 x8) w3 fun x9 w4 =>
 pN Tryd.prog (oCall 45 [x0, x9]) w4 fun _ w5 =>
 Q (.tuple #[]) w5
noncomputable def tar_fields_c7.c : Code := match Tryd.f55.body with | some c => c | none => .skip
theorem tar_fields_c7.eq [Pan] (x0 : Value) (x1 : Value) (w : World) (Q : Value → World → Prop) : cw Tryd.prog tar_fields_c7.H tar_fields_c7.c (endQ Tryd.prog Tryd.f55.results.toList Q) (argsE [x0, x1]) w = tar_fields_c7.F x0 x1 w Q := by kernel_rfl
theorem tar_fields_c7.calls [Pan] {x0 : Value} {x1 : Value} {w : World} {Q : Value → World → Prop} (h : tar_fields_c7.F x0 x1 w Q) : Calls Tryd.prog 55 #[x0, x1] w (retP Q) :=
  calls_of_cw (H := tar_fields_c7.H) (c := tar_fields_c7.c) (args := [x0, x1]) mixed Tryd.func55 (by kernel_rfl) (by kernel_rfl) (Nat.le_of_ble_eq_true (by kernel_rfl)) ((tar_fields_c7.eq x0 x1 w Q).mpr h)

/-! tar_fields_c8: pith/tar.fields$8; temporaries: 0:b 1:h 2:b 3:h -/
def tar_fields_c8.H : Hints := { cut := fun  | _ => none, loop := fun  | _ => ([], 0), order := fun  | _ => [] }
def tar_fields_c8.F [Pan] (x0 : Value) (x1 : Value) (w : World) (Q : Value → World → Prop) : Prop :=
 pN Tryd.prog (oCall 51 [x0]) w fun x6 w1 =>
 pN Tryd.prog (oNil x1) w1 fun x7 w2 =>
 pN Tryd.prog (oFld 65 x7 0) w2 fun x8 w3 =>
 pN Tryd.prog (oFld 24 x8 4) w3 fun x9 w4 =>
 pN Tryd.prog (oStore 3 x9 x6) w4 fun _ w5 =>
 Q (.tuple #[]) w5
noncomputable def tar_fields_c8.c : Code := match Tryd.f56.body with | some c => c | none => .skip
theorem tar_fields_c8.eq [Pan] (x0 : Value) (x1 : Value) (w : World) (Q : Value → World → Prop) : cw Tryd.prog tar_fields_c8.H tar_fields_c8.c (endQ Tryd.prog Tryd.f56.results.toList Q) (argsE [x0, x1]) w = tar_fields_c8.F x0 x1 w Q := by kernel_rfl
theorem tar_fields_c8.calls [Pan] {x0 : Value} {x1 : Value} {w : World} {Q : Value → World → Prop} (h : tar_fields_c8.F x0 x1 w Q) : Calls Tryd.prog 56 #[x0, x1] w (retP Q) :=
  calls_of_cw (H := tar_fields_c8.H) (c := tar_fields_c8.c) (args := [x0, x1]) mixed Tryd.func56 (by kernel_rfl) (by kernel_rfl) (Nat.le_of_ble_eq_true (by kernel_rfl)) ((tar_fields_c8.eq x0 x1 w Q).mpr h)

/-! tar_fields_c9: pith/tar.fields$9; temporaries: 0:b 1:h 2:b 3:h -/
def tar_fields_c9.H : Hints := { cut := fun  | _ => none, loop := fun  | _ => ([], 0), order := fun  | _ => [] }
def tar_fields_c9.F [Pan] (x0 : Value) (x1 : Value) (w : World) (Q : Value → World → Prop) : Prop :=
 pN Tryd.prog (oNil x1) w fun x6 w1 =>
 pN Tryd.prog (oFld 65 x6 0) w1 fun x7 w2 =>
 pN Tryd.prog (oFld 24 x7 2) w2 fun x8 w3 =>
 pN Tryd.prog (oLoad 3 x8) w3 fun x9 w4 =>
 pN Tryd.prog (oIndex 9 (.string ⟨#[48, 53, 50]⟩) x9) w4 fun x10 w5 =>
 pN Tryd.prog (oIdx 22 x0 (.int .i64 0)) w5 fun x11 w6 =>
 pN Tryd.prog (oStore 5 x11 x10) w6 fun _ w7 =>
 Q (.tuple #[]) w7
noncomputable def tar_fields_c9.c : Code := match Tryd.f57.body with | some c => c | none => .skip
theorem tar_fields_c9.eq [Pan] (x0 : Value) (x1 : Value) (w : World) (Q : Value → World → Prop) : cw Tryd.prog tar_fields_c9.H tar_fields_c9.c (endQ Tryd.prog Tryd.f57.results.toList Q) (argsE [x0, x1]) w = tar_fields_c9.F x0 x1 w Q := by kernel_rfl
theorem tar_fields_c9.calls [Pan] {x0 : Value} {x1 : Value} {w : World} {Q : Value → World → Prop} (h : tar_fields_c9.F x0 x1 w Q) : Calls Tryd.prog 57 #[x0, x1] w (retP Q) :=
  calls_of_cw (H := tar_fields_c9.H) (c := tar_fields_c9.c) (args := [x0, x1]) mixed Tryd.func57 (by kernel_rfl) (by kernel_rfl) (Nat.le_of_ble_eq_true (by kernel_rfl)) ((tar_fields_c9.eq x0 x1 w Q).mpr h)

/-! tar_fields_c10: pith/tar.fields$10; temporaries: 0:b 1:h 2:b 3:h -/
def tar_fields_c10.H : Hints := { cut := fun  | _ => none, loop := fun  | _ => ([], 0), order := fun  | _ => [] }
def tar_fields_c10.F [Pan] (x0 : Value) (x1 : Value) (w : World) (Q : Value → World → Prop) : Prop :=
 pN Tryd.prog (oIdx 22 x0 (.int .i64 0)) w fun x6 w1 =>
 pN Tryd.prog (oLoad 5 x6) w1 fun x7 w2 =>
 pN Tryd.prog (oCall 44 [(.string ⟨#[48, 53, 50]⟩), x7]) w2 fun x8 w3 =>
 pN Tryd.prog (oNil x1) w3 fun x9 w4 =>
 pN Tryd.prog (oFld 65 x9 0) w4 fun x10 w5 =>
 pN Tryd.prog (oFld 24 x10 2) w5 fun x11 w6 =>
 pN Tryd.prog (oStore 3 x11 x8) w6 fun _ w7 =>
 Q (.tuple #[]) w7
noncomputable def tar_fields_c10.c : Code := match Tryd.f58.body with | some c => c | none => .skip
theorem tar_fields_c10.eq [Pan] (x0 : Value) (x1 : Value) (w : World) (Q : Value → World → Prop) : cw Tryd.prog tar_fields_c10.H tar_fields_c10.c (endQ Tryd.prog Tryd.f58.results.toList Q) (argsE [x0, x1]) w = tar_fields_c10.F x0 x1 w Q := by kernel_rfl
theorem tar_fields_c10.calls [Pan] {x0 : Value} {x1 : Value} {w : World} {Q : Value → World → Prop} (h : tar_fields_c10.F x0 x1 w Q) : Calls Tryd.prog 58 #[x0, x1] w (retP Q) :=
  calls_of_cw (H := tar_fields_c10.H) (c := tar_fields_c10.c) (args := [x0, x1]) mixed Tryd.func58 (by kernel_rfl) (by kernel_rfl) (Nat.le_of_ble_eq_true (by kernel_rfl)) ((tar_fields_c10.eq x0 x1 w Q).mpr h)

/-! tar_fields_c11: pith/tar.fields$11; temporaries: 0:b 1:h 2:b 3:h -/
def tar_fields_c11.H : Hints := { cut := fun  | _ => none, loop := fun  | _ => ([], 0), order := fun  | _ => [] }
def tar_fields_c11.F [Pan] (x0 : Value) (x1 : Value) (w : World) (Q : Value → World → Prop) : Prop :=
 pN Tryd.prog (oNil x1) w fun x6 w1 =>
 pN Tryd.prog (oFld 65 x6 0) w1 fun x7 w2 =>
 pN Tryd.prog (oFld 24 x7 1) w2 fun x8 w3 =>
 pN Tryd.prog (oLoad 9 x8) w3 fun x9 w4 =>
 pN Tryd.prog (oBi .copy #[22, 9] 3 [false, false] [x0, x9]) w4 fun _ w5 =>
 Q (.tuple #[]) w5
noncomputable def tar_fields_c11.c : Code := match Tryd.f59.body with | some c => c | none => .skip
theorem tar_fields_c11.eq [Pan] (x0 : Value) (x1 : Value) (w : World) (Q : Value → World → Prop) : cw Tryd.prog tar_fields_c11.H tar_fields_c11.c (endQ Tryd.prog Tryd.f59.results.toList Q) (argsE [x0, x1]) w = tar_fields_c11.F x0 x1 w Q := by kernel_rfl
theorem tar_fields_c11.calls [Pan] {x0 : Value} {x1 : Value} {w : World} {Q : Value → World → Prop} (h : tar_fields_c11.F x0 x1 w Q) : Calls Tryd.prog 59 #[x0, x1] w (retP Q) :=
  calls_of_cw (H := tar_fields_c11.H) (c := tar_fields_c11.c) (args := [x0, x1]) mixed Tryd.func59 (by kernel_rfl) (by kernel_rfl) (Nat.le_of_ble_eq_true (by kernel_rfl)) ((tar_fields_c11.eq x0 x1 w Q).mpr h)

/-! tar_fields_c12: pith/tar.fields$12; temporaries: 0:b 1:h 2:b 3:h -/
def tar_fields_c12.H : Hints := { cut := fun  | _ => none, loop := fun  | _ => ([], 0), order := fun  | _ => [] }
def tar_fields_c12.F [Pan] (x0 : Value) (x1 : Value) (w : World) (Q : Value → World → Prop) : Prop :=
 pN Tryd.prog (oCall 48 [x0]) w fun x6 w1 =>
 pN Tryd.prog (oNil x1) w1 fun x7 w2 =>
 pN Tryd.prog (oFld 65 x7 0) w2 fun x8 w3 =>
 pN Tryd.prog (oFld 24 x8 1) w3 fun x9 w4 =>
 pN Tryd.prog (oStore 9 x9 x6) w4 fun _ w5 =>
 Q (.tuple #[]) w5
noncomputable def tar_fields_c12.c : Code := match Tryd.f60.body with | some c => c | none => .skip
theorem tar_fields_c12.eq [Pan] (x0 : Value) (x1 : Value) (w : World) (Q : Value → World → Prop) : cw Tryd.prog tar_fields_c12.H tar_fields_c12.c (endQ Tryd.prog Tryd.f60.results.toList Q) (argsE [x0, x1]) w = tar_fields_c12.F x0 x1 w Q := by kernel_rfl
theorem tar_fields_c12.calls [Pan] {x0 : Value} {x1 : Value} {w : World} {Q : Value → World → Prop} (h : tar_fields_c12.F x0 x1 w Q) : Calls Tryd.prog 60 #[x0, x1] w (retP Q) :=
  calls_of_cw (H := tar_fields_c12.H) (c := tar_fields_c12.c) (args := [x0, x1]) mixed Tryd.func60 (by kernel_rfl) (by kernel_rfl) (Nat.le_of_ble_eq_true (by kernel_rfl)) ((tar_fields_c12.eq x0 x1 w Q).mpr h)

/-! tar_fields_c13: pith/tar.fields$13; temporaries: 0:b 1:_ 2:b 3:_ -/
def tar_fields_c13.H : Hints := { cut := fun  | _ => none, loop := fun  | _ => ([], 0), order := fun  | _ => [] }
def tar_fields_c13.F [Pan] (x0 : Value) (x1 : Value) (w : World) (Q : Value → World → Prop) : Prop :=
 pN Tryd.prog (oBi .copy #[22, 9] 3 [false, true] [x0, (.string ⟨#[117, 115, 116, 97, 114, 0, 48, 48]⟩)]) w fun _ w1 =>
 Q (.tuple #[]) w1
noncomputable def tar_fields_c13.c : Code := match Tryd.f61.body with | some c => c | none => .skip
theorem tar_fields_c13.eq [Pan] (x0 : Value) (x1 : Value) (w : World) (Q : Value → World → Prop) : cw Tryd.prog tar_fields_c13.H tar_fields_c13.c (endQ Tryd.prog Tryd.f61.results.toList Q) (argsE [x0, x1]) w = tar_fields_c13.F x0 x1 w Q := by kernel_rfl
theorem tar_fields_c13.calls [Pan] {x0 : Value} {x1 : Value} {w : World} {Q : Value → World → Prop} (h : tar_fields_c13.F x0 x1 w Q) : Calls Tryd.prog 61 #[x0, x1] w (retP Q) :=
  calls_of_cw (H := tar_fields_c13.H) (c := tar_fields_c13.c) (args := [x0, x1]) mixed Tryd.func61 (by kernel_rfl) (by kernel_rfl) (Nat.le_of_ble_eq_true (by kernel_rfl)) ((tar_fields_c13.eq x0 x1 w Q).mpr h)

/-! tar_fields_c14: pith/tar.fields$14; temporaries: 0:b 1:h 2:b 3:h 4:p 5:_ 6:_ -/
def tar_fields_c14.H : Hints := { cut := fun  | _ => none, loop := fun  | _ => ([], 0), order := fun  | _ => [] }
def tar_fields_c14.F [Pan] (x0 : Value) (x1 : Value) (w : World) (Q : Value → World → Prop) : Prop :=
 pN Tryd.prog (oNil x1) w fun x9 w1 =>
 pN Tryd.prog (oFld 65 x9 0) w1 fun x10 w2 =>
 pN Tryd.prog (oFld 24 x10 0) w2 fun x11 w3 =>
 pN Tryd.prog (oLoad 9 x11) w3 fun x12 w4 =>
 pN Tryd.prog (oCall 43 [x12]) w4 fun x13 w5 =>
 pN Tryd.prog (oExt x13 0) w5 fun x14 w6 =>
 pN Tryd.prog (oExt x13 1) w6 fun _ w7 =>
 pN Tryd.prog (oExt x13 2) w7 fun _ w8 =>
 pN Tryd.prog (oBi .copy #[22, 9] 3 [false, false] [x0, x14]) w8 fun _ w9 =>
 Q (.tuple #[]) w9
noncomputable def tar_fields_c14.c : Code := match Tryd.f62.body with | some c => c | none => .skip
theorem tar_fields_c14.eq [Pan] (x0 : Value) (x1 : Value) (w : World) (Q : Value → World → Prop) : cw Tryd.prog tar_fields_c14.H tar_fields_c14.c (endQ Tryd.prog Tryd.f62.results.toList Q) (argsE [x0, x1]) w = tar_fields_c14.F x0 x1 w Q := by kernel_rfl
theorem tar_fields_c14.calls [Pan] {x0 : Value} {x1 : Value} {w : World} {Q : Value → World → Prop} (h : tar_fields_c14.F x0 x1 w Q) : Calls Tryd.prog 62 #[x0, x1] w (retP Q) :=
  calls_of_cw (H := tar_fields_c14.H) (c := tar_fields_c14.c) (args := [x0, x1]) mixed Tryd.func62 (by kernel_rfl) (by kernel_rfl) (Nat.le_of_ble_eq_true (by kernel_rfl)) ((tar_fields_c14.eq x0 x1 w Q).mpr h)

/-! tar_fields_c15: pith/tar.fields$15; temporaries: 0:b 1:h 2:b 3:h 4:p -/
def tar_fields_c15.H : Hints := { cut := fun  | _ => none, loop := fun  | _ => ([], 0), order := fun  | _ => [] }
def tar_fields_c15.F [Pan] (x0 : Value) (x1 : Value) (w : World) (Q : Value → World → Prop) : Prop :=
 pN Tryd.prog (oCall 48 [x0]) w fun x6 w1 =>
 pN Tryd.prog (oBin .neq 9 (.tmp 7) (.const (.string ⟨#[]⟩)) x6 (.string ⟨#[]⟩)) w1 fun x8 w2 =>
 pIf x8
 (pN Tryd.prog (oBin .add 9 (.tmp 10) (.const (.string ⟨#[47]⟩)) x6 (.string ⟨#[47]⟩)) w2 fun x11 w3 =>
 pN Tryd.prog (oNil x1) w3 fun x13 w4 =>
 pN Tryd.prog (oFld 65 x13 0) w4 fun x14 w5 =>
 pN Tryd.prog (oFld 24 x14 0) w5 fun x15 w6 =>
 pN Tryd.prog (oLoad 9 x15) w6 fun x16 w7 =>
 pN Tryd.prog (oBin .add 9 (.tmp 11) (.tmp 16) x11 x16) w7 fun x17 w8 =>
 pN Tryd.prog (oNil x1) w8 fun x18 w9 =>
 pN Tryd.prog (oFld 65 x18 0) w9 fun x19 w10 =>
 pN Tryd.prog (oFld 24 x19 0) w10 fun x20 w11 =>
 pN Tryd.prog (oStore 9 x20 x17) w11 fun _ w12 =>
 Q (.tuple #[]) w12)
 (Q (.tuple #[]) w2)
noncomputable def tar_fields_c15.c : Code := match Tryd.f63.body with | some c => c | none => .skip
theorem tar_fields_c15.eq [Pan] (x0 : Value) (x1 : Value) (w : World) (Q : Value → World → Prop) : cw Tryd.prog tar_fields_c15.H tar_fields_c15.c (endQ Tryd.prog Tryd.f63.results.toList Q) (argsE [x0, x1]) w = tar_fields_c15.F x0 x1 w Q := by kernel_rfl
theorem tar_fields_c15.calls [Pan] {x0 : Value} {x1 : Value} {w : World} {Q : Value → World → Prop} (h : tar_fields_c15.F x0 x1 w Q) : Calls Tryd.prog 63 #[x0, x1] w (retP Q) :=
  calls_of_cw (H := tar_fields_c15.H) (c := tar_fields_c15.c) (args := [x0, x1]) mixed Tryd.func63 (by kernel_rfl) (by kernel_rfl) (Nat.le_of_ble_eq_true (by kernel_rfl)) ((tar_fields_c15.eq x0 x1 w Q).mpr h)

end Go.Proofs.YteeepkimnpabiaaDoor
