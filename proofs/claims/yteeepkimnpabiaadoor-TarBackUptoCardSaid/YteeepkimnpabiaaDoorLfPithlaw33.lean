/-
  Printed by a program of mine (lift.py): each function of the seat as a plain proposition over values and worlds; that the program meets it.
-/
import Derived.Test.YteeepkimnpabiaaDoorRows
import Derived.Test.YteeepkimnpabiaaDoorFacts
namespace Go.Proofs.YteeepkimnpabiaaDoor
open Go
set_option linter.unusedSimpArgs false
set_option linter.unnecessarySimpa false
set_option linter.unusedSectionVars false
set_option linter.unusedVariables false
set_option maxRecDepth 100000

/-! pithlaw33_TarTold: pith/pithlaw33.TarTold; temporaries: 0:x 1:at 2:by 3:x 4:at 5:by 7:p 8:e 9:y 10:n 11:f -/
def pithlaw33_TarTold.H : Hints := { cut := fun  | _ => none, loop := fun  | _ => ([], 0), order := fun  | _ => [] }
def pithlaw33_TarTold.F [Pan] (x0 : Value) (x1 : Value) (x2 : Value) (w : World) (Q : Value → World → Prop) : Prop :=
 pN Tryd.prog (oBox 24 x0) w fun x3 w1 =>
 pN Tryd.prog (oLoad 24 x3) w1 fun x13 w2 =>
 pN Tryd.prog (oCall 8 [x13]) w2 fun x14 w3 =>
 pN Tryd.prog (oExt x14 0) w3 fun x15 w4 =>
 pN Tryd.prog (oExt x14 1) w4 fun x16 w5 =>
 pN Tryd.prog (oCall 9 [x16]) w5 fun x18 w6 =>
 pN Tryd.prog (oBin .neq 3 (.tmp 18) (.const (.int .i64 0)) x18 (.int .i64 0)) w6 fun x19 w7 =>
 pGd (gB x19 false) (pN Tryd.prog (oMv x1) w7) w7 fun x21 w8 =>
 pGd (gB x19 false) (pN Tryd.prog (oBin .lss 3 (.tmp 21) (.const (.int .i64 0)) x21 (.int .i64 0)) w8) w8 fun x22 w9 =>
 pN Tryd.prog (oPick x19 (.bool true) x22) w9 fun x23 w10 =>
 pGd (gB x23 false) (pN Tryd.prog (oMv x2) w10) w10 fun x25 w11 =>
 pGd (gB x23 false) (pN Tryd.prog (oBin .eql 5 (.tmp 25) (.const (.int .u8 0)) x25 (bv 0)) w11) w11 fun x26 w12 =>
 pN Tryd.prog (oPick x23 (.bool true) x26) w12 fun x27 w13 =>
 pIf x27
 (pN Tryd.prog (oBi .len #[22] 3 [false] [x15]) w13 fun x29 w14 =>
 pN Tryd.prog (oBin .eql 3 (.tmp 29) (.const (.int .i64 0)) x29 (.int .i64 0)) w14 fun x30 w15 =>
 pN Tryd.prog (oCall 9 [x16]) w15 fun x32 w16 =>
 pN Tryd.prog (oBin .neq 3 (.tmp 32) (.const (.int .i64 0)) x32 (.int .i64 0)) w16 fun x33 w17 =>
 pN Tryd.prog (oBin .eql 4 (.tmp 30) (.tmp 33) x30 x33) w17 fun x34 w18 =>
 pGd (gB x34 true) (pN Tryd.prog (oCall 10 []) w18) w18 fun x36 w19 =>
 pN Tryd.prog (oPick x34 x36 (.bool false)) w19 fun x37 w20 =>
 Q x37 w20)
 (pN Tryd.prog (oBi .len #[22] 3 [false] [x15]) w13 fun x39 w21 =>
 pN Tryd.prog (oBin .lss 3 (.tmp 39) (.const (.int .i64 512)) x39 (.int .i64 512)) w21 fun x40 w22 =>
 pIf x40
 (Q (.bool false) w22)
 (pN Tryd.prog (oBin .rem 3 (.tmp 42) (.const (.int .i64 512)) x1 (.int .i64 512)) w22 fun x43 w23 =>
 pN Tryd.prog (oIdx 22 x15 x43) w23 fun x44 w24 =>
 pN Tryd.prog (oLoad 5 x44) w24 fun x45 w25 =>
 pN Tryd.prog (oBin .xor 5 (.tmp 45) (.tmp 46) x45 x2) w25 fun x47 w26 =>
 pN Tryd.prog (oIdx 22 x15 x43) w26 fun x48 w27 =>
 pN Tryd.prog (oStore 5 x48 x47) w27 fun _ w28 =>
 pN Tryd.prog (oCall 11 [x15]) w28 fun x51 w29 =>
 pN Tryd.prog (oExt x51 0) w29 fun x52 w30 =>
 pN Tryd.prog (oExt x51 1) w30 fun x53 w31 =>
 pN Tryd.prog (oExt x51 2) w31 fun x54 w32 =>
 pN Tryd.prog (oAlloc 24) w32 fun x9 w33 =>
 pN Tryd.prog (oStore 24 x9 x52) w33 fun _ w34 =>
 pN Tryd.prog (oCall 9 [x54]) w34 fun x56 w35 =>
 pN Tryd.prog (oBin .neq 3 (.tmp 56) (.const (.int .i64 0)) x56 (.int .i64 0)) w35 fun x57 w36 =>
 pGd (gB x57 true) (pN Tryd.prog (oMv x53) w36) w36 fun x59 w37 =>
 pGd (gB x57 true) (pN Tryd.prog (oBin .eql 3 (.tmp 59) (.const (.int .i64 0)) x59 (.int .i64 0)) w37) w37 fun x60 w38 =>
 pN Tryd.prog (oPick x57 x60 (.bool false)) w38 fun x61 w39 =>
 pGd (gB x61 true) (pN Tryd.prog (oLoad 24 x9) w39) w39 fun x63 w40 =>
 pGd (gB x61 true) (pN Tryd.prog (oBuild 24 []) w40) w40 fun x64 w41 =>
 pGd (gB x61 true) (pN Tryd.prog (oCall 12 [x63, x64]) w41) w41 fun x65 w42 =>
 pN Tryd.prog (oPick x61 x65 (.bool false)) w42 fun x66 w43 =>
 Q x66 w43))
noncomputable def pithlaw33_TarTold.c : Code := match Tryd.f3.body with | some c => c | none => .skip
theorem pithlaw33_TarTold.eq [Pan] (x0 : Value) (x1 : Value) (x2 : Value) (w : World) (Q : Value → World → Prop) : cw Tryd.prog pithlaw33_TarTold.H pithlaw33_TarTold.c (endQ Tryd.prog Tryd.f3.results.toList Q) (argsE [x0, x1, x2]) w = pithlaw33_TarTold.F x0 x1 x2 w Q := by kernel_rfl
theorem pithlaw33_TarTold.calls [Pan] {x0 : Value} {x1 : Value} {x2 : Value} {w : World} {Q : Value → World → Prop} (h : pithlaw33_TarTold.F x0 x1 x2 w Q) : Calls Tryd.prog 3 #[x0, x1, x2] w (retP Q) :=
  calls_of_cw (H := pithlaw33_TarTold.H) (c := pithlaw33_TarTold.c) (args := [x0, x1, x2]) mixed Tryd.func3 (by kernel_rfl) (by kernel_rfl) (Nat.le_of_ble_eq_true (by kernel_rfl)) ((pithlaw33_TarTold.eq x0 x1 x2 w Q).mpr h)

/-! pithlaw33_TarBack: pith/pithlaw33.TarBack; temporaries: 0:l 1:cuts 2:l 3:cuts 5:b 6:e 7:bad 8:_ 9:x 10:p 11:f 12:y 13:n 14:g 15:r 16:f 17:_ 18:n 19:r 20:f -/
def pithlaw33_TarBack.H : Hints := { cut := fun | 15 => some ([7], 75557863725910028484240) | 30 => some ([], 11150372266958312624538890910372415684739088) | _ => none, loop := fun | 6 => ([7, 30], 151115727451827573128848) | 24 => ([116], 22300745115453873404978476216160420240293904) | _ => ([], 0), order := fun  | _ => [] }
def pithlaw33_TarBack.F [Pan] (x0 : Value) (x1 : Value) (w : World) (Q : Value → World → Prop) : Prop :=
 pN Tryd.prog (oCall 23 [(.slice none 0 0)]) w fun x21 w1 =>
 pN Tryd.prog (oBin .eql 51 (.tmp 21) (.const .nilFunc) x21 .nilFunc) w1 fun x22 w2 =>
 pIf x22
 (Q (.bool false) w2)
 (pN Tryd.prog (oCall 15 [x0]) w2 fun x25 w3 =>
 pN Tryd.prog (oExt x25 0) w3 fun x26 w4 =>
 pN Tryd.prog (oExt x25 1) w4 fun x27 w5 =>
 pN Tryd.prog (oBi .len #[34] 3 [false] [x0]) w5 fun x29 w6 =>
 ∃ (L6 : Value → Value → World → Prop) (m6 : Value → Value → World → Nat),
 L6 (.int .i64 0) (.int .i64 0) w6 ∧
 ∀ (_k6 : Env) (bad7l6 : Value) (v30l6 : Value) (w7 : World), L6 bad7l6 v30l6 w7 →
 pN Tryd.prog (oBin .lss 3 (.tmp 30) (.tmp 29) v30l6 x29) w7 fun x31 w8 =>
 pIf x31
 (∃ I15 : Value → World → Prop,
 (pN Tryd.prog (oIdx 34 x0 v30l6) w8 fun x32 w9 =>
 pN Tryd.prog (oLoad 24 x32) w9 fun x33 w10 =>
 pN Tryd.prog (oAlloc 24) w10 fun x9 w11 =>
 pN Tryd.prog (oStore 24 x9 x33) w11 fun _ w12 =>
 pN Tryd.prog (oLoad 24 x9) w12 fun x35 w13 =>
 pN Tryd.prog (oCall 8 [x35]) w13 fun x36 w14 =>
 pN Tryd.prog (oExt x36 0) w14 fun x37 w15 =>
 pN Tryd.prog (oExt x36 1) w15 fun x38 w16 =>
 pN Tryd.prog (oCall 9 [x38]) w16 fun x40 w17 =>
 pN Tryd.prog (oBin .neq 3 (.tmp 40) (.const (.int .i64 0)) x40 (.int .i64 0)) w17 fun x41 w18 =>
 pIf x41
 (pN Tryd.prog (oBin .eql 3 (.tmp 42) (.const (.int .i64 0)) bad7l6 (.int .i64 0)) w18 fun x43 w19 =>
 pIf x43
 (pN Tryd.prog (oCall 9 [x38]) w19 fun x45 w20 =>
 I15 x45 w20)
 (I15 bad7l6 w19))
 (pN Tryd.prog (oBs 22 0 []) w18 fun x47 w21 =>
 pN Tryd.prog (oBi .append #[22, 22] 22 [false, false] [x47, x37]) w21 fun x49 w22 =>
 pN Tryd.prog (oBs 22 3 [(0, (bv 1)), (1, (bv 2)), (2, (bv 3))]) w22 fun x50 w23 =>
 pN Tryd.prog (oBi .append #[22, 22] 22 [false, false] [x49, x50]) w23 fun x51 w24 =>
 pN Tryd.prog (oCall 11 [x51]) w24 fun x52 w25 =>
 pN Tryd.prog (oExt x52 0) w25 fun x53 w26 =>
 pN Tryd.prog (oExt x52 1) w26 fun x54 w27 =>
 pN Tryd.prog (oExt x52 2) w27 fun x55 w28 =>
 pN Tryd.prog (oAlloc 24) w28 fun x12 w29 =>
 pN Tryd.prog (oStore 24 x12 x53) w29 fun _ w30 =>
 pN Tryd.prog (oLoad 24 x9) w30 fun x56 w31 =>
 pN Tryd.prog (oLoad 24 x12) w31 fun x57 w32 =>
 pN Tryd.prog (oCall 12 [x56, x57]) w32 fun x58 w33 =>
 pN Tryd.prog (oUn .not x58) w33 fun x59 w34 =>
 pGd (gB x59 false) (pN Tryd.prog (oMv x54) w34) w34 fun x61 w35 =>
 pGd (gB x59 false) (pN Tryd.prog (oMv x37) w35) w35 fun x62 w36 =>
 pGd (gB x59 false) (pN Tryd.prog (oBi .len #[22] 3 [false] [x62]) w36) w36 fun x63 w37 =>
 pGd (gB x59 false) (pN Tryd.prog (oBin .neq 3 (.tmp 61) (.tmp 63) x61 x63) w37) w37 fun x64 w38 =>
 pN Tryd.prog (oPick x59 (.bool true) x64) w38 fun x65 w39 =>
 pGd (gB x65 false) (pN Tryd.prog (oMv x54) w39) w39 fun x67 w40 =>
 pGd (gB x65 false) (pN Tryd.prog (oBin .rem 3 (.tmp 67) (.const (.int .i64 512)) x67 (.int .i64 512)) w40) w40 fun x68 w41 =>
 pGd (gB x65 false) (pN Tryd.prog (oBin .neq 3 (.tmp 68) (.const (.int .i64 0)) x68 (.int .i64 0)) w41) w41 fun x69 w42 =>
 pN Tryd.prog (oPick x65 (.bool true) x69) w42 fun x70 w43 =>
 pGd (gB x70 false) (pN Tryd.prog (oMv x55) w43) w43 fun x72 w44 =>
 pGd (gB x70 false) (pN Tryd.prog (oCall 9 [x72]) w44) w44 fun x73 w45 =>
 pGd (gB x70 false) (pN Tryd.prog (oBin .neq 3 (.tmp 73) (.const (.int .i64 0)) x73 (.int .i64 0)) w45) w45 fun x74 w46 =>
 pN Tryd.prog (oPick x70 (.bool true) x74) w46 fun x75 w47 =>
 pIf x75
 (Q (.bool false) w47)
 (I15 bad7l6 w47))) ∧
 ∀ (_j15 : Env) (bad7c15 : Value) (w48 : World), I15 bad7c15 w48 →
 pN Tryd.prog (oBin .add 3 (.tmp 30) (.const (.int .i64 1)) v30l6 (.int .i64 1)) w48 fun x76 w49 =>
 (L6 bad7c15 x76 w49 ∧ m6 bad7c15 x76 w49 < m6 bad7l6 v30l6 w7))
 (pN Tryd.prog (oCall 9 [x27]) w8 fun x78 w50 =>
 pN Tryd.prog (oBin .neq 3 (.tmp 78) (.tmp 79) x78 bad7l6) w50 fun x80 w51 =>
 pIf x80
 (Q (.bool false) w51)
 (pN Tryd.prog (oBin .neq 3 (.tmp 81) (.const (.int .i64 0)) bad7l6 (.int .i64 0)) w51 fun x82 w52 =>
 pIf x82
 (pN Tryd.prog (oBi .len #[22] 3 [false] [x26]) w52 fun x84 w53 =>
 pN Tryd.prog (oBin .eql 3 (.tmp 84) (.const (.int .i64 0)) x84 (.int .i64 0)) w53 fun x85 w54 =>
 pGd (gB x85 true) (pN Tryd.prog (oCall 10 []) w54) w54 fun x87 w55 =>
 pN Tryd.prog (oPick x85 x87 (.bool false)) w55 fun x88 w56 =>
 Q x88 w56)
 (pN Tryd.prog (oCall 19 [x26]) w52 fun x91 w57 =>
 pN Tryd.prog (oExt x91 0) w57 fun x92 w58 =>
 pN Tryd.prog (oExt x91 1) w58 fun x93 w59 =>
 pN Tryd.prog (oCall 21 [x92, x0]) w59 fun x96 w60 =>
 pN Tryd.prog (oUn .not x96) w60 fun x97 w61 =>
 pGd (gB x97 false) (pN Tryd.prog (oMv x93) w61) w61 fun x99 w62 =>
 pGd (gB x97 false) (pN Tryd.prog (oCall 9 [x99]) w62) w62 fun x100 w63 =>
 pGd (gB x97 false) (pN Tryd.prog (oBin .neq 3 (.tmp 100) (.const (.int .i64 0)) x100 (.int .i64 0)) w63) w63 fun x101 w64 =>
 pN Tryd.prog (oPick x97 (.bool true) x101) w64 fun x102 w65 =>
 pGd (gB x102 false) (pN Tryd.prog (oMv x26) w65) w65 fun x104 w66 =>
 pGd (gB x102 false) (pN Tryd.prog (oBi .len #[22] 3 [false] [x104]) w66) w66 fun x105 w67 =>
 pGd (gB x102 false) (pN Tryd.prog (oBin .lss 3 (.tmp 105) (.const (.int .i64 1024)) x105 (.int .i64 1024)) w67) w67 fun x106 w68 =>
 pN Tryd.prog (oPick x102 (.bool true) x106) w68 fun x107 w69 =>
 pGd (gB x107 false) (pN Tryd.prog (oMv x26) w69) w69 fun x109 w70 =>
 pGd (gB x107 false) (pN Tryd.prog (oBi .len #[22] 3 [false] [x109]) w70) w70 fun x110 w71 =>
 pGd (gB x107 false) (pN Tryd.prog (oBin .rem 3 (.tmp 110) (.const (.int .i64 512)) x110 (.int .i64 512)) w71) w71 fun x111 w72 =>
 pGd (gB x107 false) (pN Tryd.prog (oBin .neq 3 (.tmp 111) (.const (.int .i64 0)) x111 (.int .i64 0)) w72) w72 fun x112 w73 =>
 pN Tryd.prog (oPick x107 (.bool true) x112) w73 fun x113 w74 =>
 pIf x113
 (Q (.bool false) w74)
 (pN Tryd.prog (oBi .len #[54] 3 [false] [x1]) w74 fun x115 w75 =>
 ∃ (L24 : Value → World → Prop) (m24 : Value → World → Nat),
 L24 (.int .i64 0) w75 ∧
 ∀ (_k24 : Env) (v116l24 : Value) (w76 : World), L24 v116l24 w76 →
 pN Tryd.prog (oBin .lss 3 (.tmp 116) (.tmp 115) v116l24 x115) w76 fun x117 w77 =>
 pIf x117
 (∃ I30 : World → Prop,
 (pN Tryd.prog (oIdx 54 x1 v116l24) w77 fun x118 w78 =>
 pN Tryd.prog (oLoad 3 x118) w78 fun x119 w79 =>
 pN Tryd.prog (oBin .lss 3 (.tmp 120) (.const (.int .i64 0)) x119 (.int .i64 0)) w79 fun x121 w80 =>
 pGd (gB x121 false) (pN Tryd.prog (oMv x119) w80) w80 fun x123 w81 =>
 pGd (gB x121 false) (pN Tryd.prog (oMv x26) w81) w81 fun x124 w82 =>
 pGd (gB x121 false) (pN Tryd.prog (oBi .len #[22] 3 [false] [x124]) w82) w82 fun x125 w83 =>
 pGd (gB x121 false) (pN Tryd.prog (oBin .geq 3 (.tmp 123) (.tmp 125) x123 x125) w83) w83 fun x126 w84 =>
 pN Tryd.prog (oPick x121 (.bool true) x126) w84 fun x127 w85 =>
 pIf x127
 (I30 w85)
 (pN Tryd.prog (oSl 22 x26 none (some x119) none) w85 fun x131 w86 =>
 pN Tryd.prog (oCall 19 [x131]) w86 fun x132 w87 =>
 pN Tryd.prog (oExt x132 0) w87 fun x133 w88 =>
 pN Tryd.prog (oExt x132 1) w88 fun x134 w89 =>
 pN Tryd.prog (oBi .len #[34] 3 [false] [x133]) w89 fun x136 w90 =>
 pN Tryd.prog (oBin .neq 3 (.tmp 136) (.const (.int .i64 0)) x136 (.int .i64 0)) w90 fun x137 w91 =>
 pGd (gB x137 false) (pN Tryd.prog (oMv x134) w91) w91 fun x139 w92 =>
 pGd (gB x137 false) (pN Tryd.prog (oCall 9 [x139]) w92) w92 fun x140 w93 =>
 pGd (gB x137 false) (pN Tryd.prog (oBin .neq 3 (.tmp 140) (.const (.int .i64 1)) x140 (.int .i64 1)) w93) w93 fun x141 w94 =>
 pN Tryd.prog (oPick x137 (.bool true) x141) w94 fun x142 w95 =>
 pIf x142
 (Q (.bool false) w95)
 (I30 w95))) ∧
 ∀ (_j30 : Env) (w96 : World), I30 w96 →
 pN Tryd.prog (oBin .add 3 (.tmp 116) (.const (.int .i64 1)) v116l24 (.int .i64 1)) w96 fun x143 w97 =>
 (L24 x143 w97 ∧ m24 x143 w97 < m24 v116l24 w76))
 (pN Tryd.prog (oCall 10 []) w77 fun x144 w98 =>
 Q x144 w98))))))
noncomputable def pithlaw33_TarBack.c : Code := match Tryd.f5.body with | some c => c | none => .skip
theorem pithlaw33_TarBack.eq [Pan] (x0 : Value) (x1 : Value) (w : World) (Q : Value → World → Prop) : cw Tryd.prog pithlaw33_TarBack.H pithlaw33_TarBack.c (endQ Tryd.prog Tryd.f5.results.toList Q) (argsE [x0, x1]) w = pithlaw33_TarBack.F x0 x1 w Q := by kernel_rfl
theorem pithlaw33_TarBack.calls [Pan] {x0 : Value} {x1 : Value} {w : World} {Q : Value → World → Prop} (h : pithlaw33_TarBack.F x0 x1 w Q) : Calls Tryd.prog 5 #[x0, x1] w (retP Q) :=
  calls_of_cw (H := pithlaw33_TarBack.H) (c := pithlaw33_TarBack.c) (args := [x0, x1]) mixed Tryd.func5 (by kernel_rfl) (by kernel_rfl) (Nat.le_of_ble_eq_true (by kernel_rfl)) ((pithlaw33_TarBack.eq x0 x1 w Q).mpr h)

/-! pithlaw33_TarSole: pith/pithlaw33.TarSole; temporaries: 0:b 1:b 3:l 4:e 5:p 6:f 7:x 8:n 9:p 10:f -/
def pithlaw33_TarSole.H : Hints := { cut := fun | 8 => some ([], 137438888036) | _ => none, loop := fun  | _ => ([], 0), order := fun | 12 => [(0, 0), (1, 1), (2, 3), (3, 7), (4, 15), (5, 31), (6, 63), (7, 127), (8, 255), (9, 511), (10, 1023), (11, 2047), (12, 4095), (13, 8191), (14, 16383), (15, 32767), (16, 65535), (17, 131071), (18, 262143), (19, 524287), (20, 1048575), (21, 2097151), (22, 4194303), (23, 8388607), (24, 16777215)] | _ => [] }
def pithlaw33_TarSole.F [Pan] (x0 : Value) (w : World) (Q : Value → World → Prop) : Prop :=
 pN Tryd.prog (oCall 19 [x0]) w fun x13 w1 =>
 pN Tryd.prog (oExt x13 0) w1 fun x14 w2 =>
 pN Tryd.prog (oExt x13 1) w2 fun x15 w3 =>
 ∃ I8 : World → Prop,
 (pN Tryd.prog (oCall 9 [x15]) w3 fun x17 w4 =>
 pN Tryd.prog (oBin .eql 3 (.tmp 17) (.const (.int .i64 0)) x17 (.int .i64 0)) w4 fun x18 w5 =>
 pIf x18
 (pN Tryd.prog (oCall 15 [x14]) w5 fun x21 w6 =>
 pN Tryd.prog (oExt x21 0) w6 fun x22 w7 =>
 pN Tryd.prog (oExt x21 1) w7 fun x23 w8 =>
 pN Tryd.prog (oCall 9 [x23]) w8 fun x25 w9 =>
 pN Tryd.prog (oBin .neq 3 (.tmp 25) (.const (.int .i64 0)) x25 (.int .i64 0)) w9 fun x26 w10 =>
 pGd (gB x26 false) (pN Tryd.prog (oMv x22) w10) w10 fun x28 w11 =>
 pGd (gB x26 false) (pN Tryd.prog (oConv 22 9 x28) w11) w11 fun x29 w12 =>
 pGd (gB x26 false) (pN Tryd.prog (oMv x0) w12) w12 fun x30 w13 =>
 pGd (gB x26 false) (pN Tryd.prog (oConv 22 9 x30) w13) w13 fun x31 w14 =>
 pGd (gB x26 false) (pN Tryd.prog (oBin .neq 9 (.tmp 29) (.tmp 31) x29 x31) w14) w14 fun x32 w15 =>
 pN Tryd.prog (oPick x26 (.bool true) x32) w15 fun x33 w16 =>
 pIf x33
 (Q (.bool false) w16)
 (I8 w16))
 (pN Tryd.prog (oBi .len #[34] 3 [false] [x14]) w5 fun x35 w17 =>
 pN Tryd.prog (oBin .neq 3 (.tmp 35) (.const (.int .i64 0)) x35 (.int .i64 0)) w17 fun x36 w18 =>
 pIf x36
 (Q (.bool false) w18)
 (I8 w18))) ∧
 ∀ (_j8 : Env) (w19 : World), I8 w19 →
 pN Tryd.prog (oCall 11 [x0]) w19 fun x39 w20 =>
 pN Tryd.prog (oExt x39 0) w20 fun x40 w21 =>
 pN Tryd.prog (oExt x39 1) w21 fun x41 w22 =>
 pN Tryd.prog (oExt x39 2) w22 fun x42 w23 =>
 pN Tryd.prog (oAlloc 24) w23 fun x7 w24 =>
 pN Tryd.prog (oStore 24 x7 x40) w24 fun _ w25 =>
 pN Tryd.prog (oCall 9 [x42]) w25 fun x44 w26 =>
 pN Tryd.prog (oBin .neq 3 (.tmp 44) (.const (.int .i64 0)) x44 (.int .i64 0)) w26 fun x45 w27 =>
 pIf x45
 (pN Tryd.prog (oBin .eql 3 (.tmp 46) (.const (.int .i64 0)) x41 (.int .i64 0)) w27 fun x47 w28 =>
 pGd (gB x47 true) (pN Tryd.prog (oLoad 24 x7) w28) w28 fun x49 w29 =>
 pGd (gB x47 true) (pN Tryd.prog (oBuild 24 []) w29) w29 fun x50 w30 =>
 pGd (gB x47 true) (pN Tryd.prog (oCall 12 [x49, x50]) w30) w30 fun x51 w31 =>
 pN Tryd.prog (oPick x47 x51 (.bool false)) w31 fun x52 w32 =>
 pGd (gB x52 true) (pN Tryd.prog (oMv x42) w32) w32 fun x54 w33 =>
 pGd (gB x52 true) (pN Tryd.prog (oCall 9 [x54]) w33) w33 fun x55 w34 =>
 pGd (gB x52 true) (pN Tryd.prog (oBin .eql 3 (.tmp 55) (.const (.int .i64 1)) x55 (.int .i64 1)) w34) w34 fun x56 w35 =>
 pGd (gB x52 true) (pN Tryd.prog (oMv x56) w35) w35 fun x57 w36 =>
 pGd (gB x57 false) (pN Tryd.prog (oMv x42) w36) w36 fun x58 w37 =>
 pGd (gB x57 false) (pN Tryd.prog (oCall 9 [x58]) w37) w37 fun x59 w38 =>
 pGd (gB x57 false) (pN Tryd.prog (oBin .eql 3 (.tmp 59) (.const (.int .i64 2)) x59 (.int .i64 2)) w38) w38 fun x60 w39 =>
 pGd (gB x52 true) (pN Tryd.prog (oPick x57 (.bool true) x60) w39) w39 fun x61 w40 =>
 pGd (gB x52 true) (pN Tryd.prog (oMv x61) w40) w40 fun x62 w41 =>
 pGd (gB x62 false) (pN Tryd.prog (oMv x42) w41) w41 fun x63 w42 =>
 pGd (gB x62 false) (pN Tryd.prog (oCall 9 [x63]) w42) w42 fun x64 w43 =>
 pGd (gB x62 false) (pN Tryd.prog (oBin .eql 3 (.tmp 64) (.const (.int .i64 3)) x64 (.int .i64 3)) w43) w43 fun x65 w44 =>
 pGd (gB x52 true) (pN Tryd.prog (oPick x62 (.bool true) x65) w44) w44 fun x66 w45 =>
 pN Tryd.prog (oPick x52 x66 (.bool false)) w45 fun x67 w46 =>
 pGd (gB x67 true) (pN Tryd.prog (oCall 10 []) w46) w46 fun x69 w47 =>
 pN Tryd.prog (oPick x67 x69 (.bool false)) w47 fun x70 w48 =>
 Q x70 w48)
 (pN Tryd.prog (oLoad 24 x7) w27 fun x72 w49 =>
 pN Tryd.prog (oCall 8 [x72]) w49 fun x73 w50 =>
 pN Tryd.prog (oExt x73 0) w50 fun x74 w51 =>
 pN Tryd.prog (oExt x73 1) w51 fun x75 w52 =>
 pDr w52 fun w53 =>
 pN Tryd.prog (oCall 9 [x75]) w53 fun x77 w54 =>
 (True) ∧ (pA Tryd.prog (oBin .eql 3 (.tmp 77) (.const (.int .i64 0)) x77 (.int .i64 0)) fun x78 =>
 gA (gB x78 true) (pA Tryd.prog (oMv x41)) fun x80 =>
 gA (gB x78 true) (pA Tryd.prog (oMv x74)) fun x81 =>
 gA (gB x78 true) (pA Tryd.prog (oBi .len #[22] 3 [false] [x81])) fun x82 =>
 gA (gB x78 true) (pA Tryd.prog (oBin .eql 3 (.tmp 80) (.tmp 82) x80 x82)) fun x83 =>
 pA Tryd.prog (oPick x78 x83 (.bool false)) fun x84 =>
 gA (gB x84 true) (pA Tryd.prog (oMv x41)) fun x86 =>
 gA (gB x84 true) (pA Tryd.prog (oMv x0)) fun x87 =>
 gA (gB x84 true) (pA Tryd.prog (oBi .len #[22] 3 [false] [x87])) fun x88 =>
 gA (gB x84 true) (pA Tryd.prog (oBin .leq 3 (.tmp 86) (.tmp 88) x86 x88)) fun x89 =>
 pA Tryd.prog (oPick x84 x89 (.bool false)) fun x90 =>
 gA (gB x90 true) (pA Tryd.prog (oMv x74)) fun x92 =>
 gA (gB x90 true) (pL Tryd.prog (oConv 22 9 x92) w54) fun x93 =>
 gA (gB x90 true) (pA Tryd.prog (oMv x0)) fun x94 =>
 gA (gB x90 true) (pA Tryd.prog (oMv x41)) fun x95 =>
 gA (gB x90 true) (pA Tryd.prog (oSl 22 x94 none (some x95) none)) fun x96 =>
 gA (gB x90 true) (pL Tryd.prog (oConv 22 9 x96) w54) fun x97 =>
 gA (gB x90 true) (pA Tryd.prog (oBin .eql 9 (.tmp 93) (.tmp 97) x93 x97)) fun x98 =>
 pA Tryd.prog (oPick x90 x98 (.bool false)) fun x99 =>
 Q x99 w54))
noncomputable def pithlaw33_TarSole.c : Code := match Tryd.f6.body with | some c => c | none => .skip
theorem pithlaw33_TarSole.eq [Pan] (x0 : Value) (w : World) (Q : Value → World → Prop) : cw Tryd.prog pithlaw33_TarSole.H pithlaw33_TarSole.c (endQ Tryd.prog Tryd.f6.results.toList Q) (argsE [x0]) w = pithlaw33_TarSole.F x0 w Q := by kernel_rfl
theorem pithlaw33_TarSole.calls [Pan] {x0 : Value} {w : World} {Q : Value → World → Prop} (h : pithlaw33_TarSole.F x0 w Q) : Calls Tryd.prog 6 #[x0] w (retP Q) :=
  calls_of_cw (H := pithlaw33_TarSole.H) (c := pithlaw33_TarSole.c) (args := [x0]) mixed Tryd.func6 (by kernel_rfl) (by kernel_rfl) (Nat.le_of_ble_eq_true (by kernel_rfl)) ((pithlaw33_TarSole.eq x0 w Q).mpr h)

/-! pithlaw33_num: pith/pithlaw33.num; temporaries: 0:e 1:e -/
def pithlaw33_num.H : Hints := { cut := fun  | _ => none, loop := fun  | _ => ([], 0), order := fun  | _ => [] }
def pithlaw33_num.F [Pan] (x0 : Value) (w : World) (Q : Value → World → Prop) : Prop :=
 Q x0 w
noncomputable def pithlaw33_num.c : Code := match Tryd.f9.body with | some c => c | none => .skip
theorem pithlaw33_num.eq [Pan] (x0 : Value) (w : World) (Q : Value → World → Prop) : cw Tryd.prog pithlaw33_num.H pithlaw33_num.c (endQ Tryd.prog Tryd.f9.results.toList Q) (argsE [x0]) w = pithlaw33_num.F x0 w Q := by kernel_rfl
theorem pithlaw33_num.calls [Pan] {x0 : Value} {w : World} {Q : Value → World → Prop} (h : pithlaw33_num.F x0 w Q) : Calls Tryd.prog 9 #[x0] w (retP Q) :=
  calls_of_cw (H := pithlaw33_num.H) (c := pithlaw33_num.c) (args := [x0]) mixed Tryd.func9 (by kernel_rfl) (by kernel_rfl) (Nat.le_of_ble_eq_true (by kernel_rfl)) ((pithlaw33_num.eq x0 w Q).mpr h)

/-! pithlaw33_known: pith/pithlaw33.known; temporaries: 1:b 2:e 3:z 4:f 5:_ 6:g -/
def pithlaw33_known.H : Hints := { cut := fun  | _ => none, loop := fun  | _ => ([], 0), order := fun | 4 => [(0, 0), (1, 1), (2, 3), (3, 7), (4, 15), (5, 31), (6, 63), (7, 127), (8, 255), (9, 511), (10, 1023), (11, 2047), (12, 4095), (13, 8191), (14, 16383), (15, 32767), (16, 65535), (17, 131071), (18, 262143), (19, 524287), (20, 1048575), (21, 2097151), (22, 4194303), (23, 8388607), (24, 16777215), (25, 33554431), (26, 67108863), (27, 134217727), (28, 268435455), (29, 536870911), (30, 1073741823), (31, 2147483647)] | _ => [] }
def pithlaw33_known.F [Pan]  (w : World) (Q : Value → World → Prop) : Prop :=
 pN Tryd.prog (oBs 22 5 [(0, (bv 104)), (1, (bv 101)), (2, (bv 108)), (3, (bv 108)), (4, (bv 111))]) w fun x8 w1 =>
 pN Tryd.prog (oConv 22 22 x8) w1 fun x9 w2 =>
 pN Tryd.prog (oBuild 24 [(0, (.string ⟨#[97]⟩)), (3, (.int .i64 420)), (4, (.int .i64 1)), (5, x9)]) w2 fun x10 w3 =>
 pN Tryd.prog (oCall 8 [x10]) w3 fun x11 w4 =>
 pN Tryd.prog (oExt x11 0) w4 fun x12 w5 =>
 pN Tryd.prog (oExt x11 1) w5 fun x13 w6 =>
 pN Tryd.prog (oCall 15 [(.slice none 0 0)]) w6 fun x15 w7 =>
 pN Tryd.prog (oExt x15 0) w7 fun x16 w8 =>
 pN Tryd.prog (oExt x15 1) w8 fun x17 w9 =>
 pN Tryd.prog (oBuild 24 []) w9 fun x19 w10 =>
 pN Tryd.prog (oCall 8 [x19]) w10 fun x20 w11 =>
 pN Tryd.prog (oExt x20 0) w11 fun _ w12 =>
 pN Tryd.prog (oExt x20 1) w12 fun x22 w13 =>
 pDr w13 fun w14 =>
 pN Tryd.prog (oCall 9 [x13]) w14 fun x24 w15 =>
 (True) ∧ (pA Tryd.prog (oBin .eql 3 (.tmp 24) (.const (.int .i64 0)) x24 (.int .i64 0)) fun x25 =>
 gA (gB x25 true) (pA Tryd.prog (oMv x12)) fun x27 =>
 gA (gB x25 true) (pA Tryd.prog (oBi .len #[22] 3 [false] [x27])) fun x28 =>
 gA (gB x25 true) (pA Tryd.prog (oBin .eql 3 (.tmp 28) (.const (.int .i64 1024)) x28 (.int .i64 1024))) fun x29 =>
 pA Tryd.prog (oPick x25 x29 (.bool false)) fun x30 =>
 gA (gB x30 true) (pA Tryd.prog (oMv x12)) fun x32 =>
 gA (gB x30 true) (pA Tryd.prog (oSl 22 x32 (some (.int .i64 148)) (some (.int .i64 157)) none)) fun x33 =>
 gA (gB x30 true) (pL Tryd.prog (oConv 22 9 x33) w15) fun x34 =>
 gA (gB x30 true) (pA Tryd.prog (oBin .eql 9 (.tmp 34) (.const (.string ⟨#[48, 48, 55, 51, 52, 52, 0, 32, 48]⟩)) x34 (.string ⟨#[48, 48, 55, 51, 52, 52, 0, 32, 48]⟩))) fun x35 =>
 pA Tryd.prog (oPick x30 x35 (.bool false)) fun x36 =>
 gA (gB x36 true) (pA Tryd.prog (oMv x17)) fun x38 =>
 pGd (gB x36 true) (pN Tryd.prog (oCall 9 [x38]) w15) w15 fun x39 w16 =>
 (True) ∧ (gA (gB x36 true) (pA Tryd.prog (oBin .eql 3 (.tmp 39) (.const (.int .i64 0)) x39 (.int .i64 0))) fun x40 =>
 pA Tryd.prog (oPick x36 x40 (.bool false)) fun x41 =>
 gA (gB x41 true) (pA Tryd.prog (oMv x16)) fun x43 =>
 gA (gB x41 true) (pL Tryd.prog (oConv 22 9 x43) w16) fun x44 =>
 pGd (gB x41 true) (pN Tryd.prog (oMk 22 (.int .i64 1024) (.int .i64 1024)) w16) w16 fun x45 w17 =>
 ((((gB x41 true) = true → Sem.run Tryd.prog (oConv 22 9 x43) w17 = .ok (.value x44) w17)) ∧ True) ∧ (gA (gB x41 true) (pL Tryd.prog (oConv 22 9 x45) w17) fun x46 =>
 gA (gB x41 true) (pA Tryd.prog (oBin .eql 9 (.tmp 44) (.tmp 46) x44 x46)) fun x47 =>
 pA Tryd.prog (oPick x41 x47 (.bool false)) fun x48 =>
 gA (gB x48 true) (pA Tryd.prog (oMv x22)) fun x50 =>
 pGd (gB x48 true) (pN Tryd.prog (oCall 9 [x50]) w17) w17 fun x51 w18 =>
 (True) ∧ (gA (gB x48 true) (pA Tryd.prog (oBin .eql 3 (.tmp 51) (.const (.int .i64 8)) x51 (.int .i64 8))) fun x52 =>
 pA Tryd.prog (oPick x48 x52 (.bool false)) fun x53 =>
 Q x53 w18))))
noncomputable def pithlaw33_known.c : Code := match Tryd.f10.body with | some c => c | none => .skip
theorem pithlaw33_known.eq [Pan]  (w : World) (Q : Value → World → Prop) : cw Tryd.prog pithlaw33_known.H pithlaw33_known.c (endQ Tryd.prog Tryd.f10.results.toList Q) (argsE []) w = pithlaw33_known.F  w Q := by kernel_rfl
theorem pithlaw33_known.calls [Pan]  {w : World} {Q : Value → World → Prop} (h : pithlaw33_known.F  w Q) : Calls Tryd.prog 10 #[] w (retP Q) :=
  calls_of_cw (H := pithlaw33_known.H) (c := pithlaw33_known.c) (args := []) mixed Tryd.func10 (by kernel_rfl) (by kernel_rfl) (Nat.le_of_ble_eq_true (by kernel_rfl)) ((pithlaw33_known.eq  w Q).mpr h)

/-! pithlaw33_same: pith/pithlaw33.same; temporaries: 0:x 1:y 2:x 3:y -/
def pithlaw33_same.H : Hints := { cut := fun  | _ => none, loop := fun  | _ => ([], 0), order := fun  | _ => [] }
def pithlaw33_same.F [Pan] (x0 : Value) (x1 : Value) (w : World) (Q : Value → World → Prop) : Prop :=
 pN Tryd.prog (oBox 24 x0) w fun x2 w1 =>
 pN Tryd.prog (oBox 24 x1) w1 fun x3 w2 =>
 pN Tryd.prog (oFld 24 x2 0) w2 fun x5 w3 =>
 pN Tryd.prog (oLoad 9 x5) w3 fun x6 w4 =>
 pN Tryd.prog (oFld 24 x3 0) w4 fun x7 w5 =>
 pN Tryd.prog (oLoad 9 x7) w5 fun x8 w6 =>
 pN Tryd.prog (oBin .eql 9 (.tmp 6) (.tmp 8) x6 x8) w6 fun x9 w7 =>
 pGd (gB x9 true) (pN Tryd.prog (oFld 24 x2 1) w7) w7 fun x11 w8 =>
 pGd (gB x9 true) (pN Tryd.prog (oLoad 9 x11) w8) w8 fun x12 w9 =>
 pGd (gB x9 true) (pN Tryd.prog (oFld 24 x3 1) w9) w9 fun x13 w10 =>
 pGd (gB x9 true) (pN Tryd.prog (oLoad 9 x13) w10) w10 fun x14 w11 =>
 pGd (gB x9 true) (pN Tryd.prog (oBin .eql 9 (.tmp 12) (.tmp 14) x12 x14) w11) w11 fun x15 w12 =>
 pN Tryd.prog (oPick x9 x15 (.bool false)) w12 fun x16 w13 =>
 pGd (gB x16 true) (pN Tryd.prog (oFld 24 x2 2) w13) w13 fun x18 w14 =>
 pGd (gB x16 true) (pN Tryd.prog (oLoad 3 x18) w14) w14 fun x19 w15 =>
 pGd (gB x16 true) (pN Tryd.prog (oFld 24 x3 2) w15) w15 fun x20 w16 =>
 pGd (gB x16 true) (pN Tryd.prog (oLoad 3 x20) w16) w16 fun x21 w17 =>
 pGd (gB x16 true) (pN Tryd.prog (oBin .eql 3 (.tmp 19) (.tmp 21) x19 x21) w17) w17 fun x22 w18 =>
 pN Tryd.prog (oPick x16 x22 (.bool false)) w18 fun x23 w19 =>
 pGd (gB x23 true) (pN Tryd.prog (oFld 24 x2 3) w19) w19 fun x25 w20 =>
 pGd (gB x23 true) (pN Tryd.prog (oLoad 3 x25) w20) w20 fun x26 w21 =>
 pGd (gB x23 true) (pN Tryd.prog (oFld 24 x3 3) w21) w21 fun x27 w22 =>
 pGd (gB x23 true) (pN Tryd.prog (oLoad 3 x27) w22) w22 fun x28 w23 =>
 pGd (gB x23 true) (pN Tryd.prog (oBin .eql 3 (.tmp 26) (.tmp 28) x26 x28) w23) w23 fun x29 w24 =>
 pN Tryd.prog (oPick x23 x29 (.bool false)) w24 fun x30 w25 =>
 pGd (gB x30 true) (pN Tryd.prog (oFld 24 x2 4) w25) w25 fun x32 w26 =>
 pGd (gB x30 true) (pN Tryd.prog (oLoad 3 x32) w26) w26 fun x33 w27 =>
 pGd (gB x30 true) (pN Tryd.prog (oFld 24 x3 4) w27) w27 fun x34 w28 =>
 pGd (gB x30 true) (pN Tryd.prog (oLoad 3 x34) w28) w28 fun x35 w29 =>
 pGd (gB x30 true) (pN Tryd.prog (oBin .eql 3 (.tmp 33) (.tmp 35) x33 x35) w29) w29 fun x36 w30 =>
 pN Tryd.prog (oPick x30 x36 (.bool false)) w30 fun x37 w31 =>
 pGd (gB x37 true) (pN Tryd.prog (oFld 24 x2 5) w31) w31 fun x39 w32 =>
 pGd (gB x37 true) (pN Tryd.prog (oLoad 22 x39) w32) w32 fun x40 w33 =>
 pGd (gB x37 true) (pN Tryd.prog (oConv 22 9 x40) w33) w33 fun x41 w34 =>
 pGd (gB x37 true) (pN Tryd.prog (oFld 24 x3 5) w34) w34 fun x42 w35 =>
 pGd (gB x37 true) (pN Tryd.prog (oLoad 22 x42) w35) w35 fun x43 w36 =>
 pGd (gB x37 true) (pN Tryd.prog (oConv 22 9 x43) w36) w36 fun x44 w37 =>
 pGd (gB x37 true) (pN Tryd.prog (oBin .eql 9 (.tmp 41) (.tmp 44) x41 x44) w37) w37 fun x45 w38 =>
 pN Tryd.prog (oPick x37 x45 (.bool false)) w38 fun x46 w39 =>
 Q x46 w39
noncomputable def pithlaw33_same.c : Code := match Tryd.f12.body with | some c => c | none => .skip
theorem pithlaw33_same.eq [Pan] (x0 : Value) (x1 : Value) (w : World) (Q : Value → World → Prop) : cw Tryd.prog pithlaw33_same.H pithlaw33_same.c (endQ Tryd.prog Tryd.f12.results.toList Q) (argsE [x0, x1]) w = pithlaw33_same.F x0 x1 w Q := by kernel_rfl
theorem pithlaw33_same.calls [Pan] {x0 : Value} {x1 : Value} {w : World} {Q : Value → World → Prop} (h : pithlaw33_same.F x0 x1 w Q) : Calls Tryd.prog 12 #[x0, x1] w (retP Q) :=
  calls_of_cw (H := pithlaw33_same.H) (c := pithlaw33_same.c) (args := [x0, x1]) mixed Tryd.func12 (by kernel_rfl) (by kernel_rfl) (Nat.le_of_ble_eq_true (by kernel_rfl)) ((pithlaw33_same.eq x0 x1 w Q).mpr h)

/-! pithlaw33_room: pith/pithlaw33.room; temporaries: 0:l 1:l 4:r 5:_ 6:x 7:d -/
def pithlaw33_room.H : Hints := { cut := fun  | _ => none, loop := fun | 3 => ([12], 562949953417408) | _ => ([], 0), order := fun | 8 => [(0, 0), (1, 1), (2, 3), (3, 7), (4, 15), (5, 31), (6, 63), (7, 127), (8, 255), (9, 511), (10, 1023)] | _ => [] }
def pithlaw33_room.F [Pan] (x0 : Value) (w : World) (Q : Value → World → Prop) : Prop :=
 pN Tryd.prog (oBuild 75 []) w fun x8 w1 =>
 pN Tryd.prog (oBox 75 x8) w1 fun x9 w2 =>
 pN Tryd.prog (oBi .len #[34] 3 [false] [x0]) w2 fun x11 w3 =>
 ∃ (L3 : Value → World → Prop) (m3 : Value → World → Nat),
 L3 (.int .i64 0) w3 ∧
 ∀ (_k3 : Env) (v12l3 : Value) (w4 : World), L3 v12l3 w4 →
 pN Tryd.prog (oBin .lss 3 (.tmp 12) (.tmp 11) v12l3 x11) w4 fun x13 w5 =>
 pIf x13
 (pN Tryd.prog (oIdx 34 x0 v12l3) w5 fun x14 w6 =>
 pN Tryd.prog (oLoad 24 x14) w6 fun x15 w7 =>
 pN Tryd.prog (oAlloc 24) w7 fun x6 w8 =>
 pN Tryd.prog (oStore 24 x6 x15) w8 fun _ w9 =>
 pN Tryd.prog (oBs 22 0 []) w9 fun x16 w10 =>
 pN Tryd.prog (oFld 24 x6 5) w10 fun x17 w11 =>
 pN Tryd.prog (oLoad 22 x17) w11 fun x18 w12 =>
 pN Tryd.prog (oBi .append #[22, 22] 22 [false, false] [x16, x18]) w12 fun x19 w13 =>
 pN Tryd.prog (oBs 22 1 [(0, (bv 45))]) w13 fun x20 w14 =>
 pN Tryd.prog (oBi .append #[22, 22] 22 [false, false] [x19, x20]) w14 fun x21 w15 =>
 pN Tryd.prog (oNil x9) w15 fun x24 w16 =>
 pN Tryd.prog (oFld 75 x24 1) w16 fun x25 w17 =>
 pN Tryd.prog (oLoad 57 x25) w17 fun x26 w18 =>
 pN Tryd.prog (oBs 57 1 [(0, x21)]) w18 fun x28 w19 =>
 pN Tryd.prog (oBi .append #[57, 57] 57 [false, false] [x26, x28]) w19 fun x29 w20 =>
 pN Tryd.prog (oNil x9) w20 fun x30 w21 =>
 pN Tryd.prog (oFld 75 x30 1) w21 fun x31 w22 =>
 pN Tryd.prog (oStore 57 x31 x29) w22 fun _ w23 =>
 pN Tryd.prog (oFld 24 x6 5) w23 fun x33 w24 =>
 pN Tryd.prog (oLoad 22 x33) w24 fun x34 w25 =>
 pN Tryd.prog (oBi .len #[22] 3 [false] [x34]) w25 fun x35 w26 =>
 pN Tryd.prog (oSl 22 x21 none (some x35) none) w26 fun x36 w27 =>
 pN Tryd.prog (oFld 24 x6 5) w27 fun x37 w28 =>
 pN Tryd.prog (oStore 22 x37 x36) w28 fun _ w29 =>
 pDr w29 fun w30 =>
 pA Tryd.prog (oNil x9) fun x40 =>
 pA Tryd.prog (oFld 75 x40 0) fun x41 =>
 pL Tryd.prog (oLoad 34 x41) w30 fun x42 =>
 pL Tryd.prog (oLoad 24 x6) w30 fun x43 =>
 pN Tryd.prog (oBs 34 1 [(0, x43)]) w30 fun x44 w31 =>
 ((Sem.run Tryd.prog (oLoad 34 x41) w31 = .ok (.value x42) w31) ∧ True) ∧ (pN Tryd.prog (oBi .append #[34, 34] 34 [false, false] [x42, x44]) w31 fun x45 w32 =>
 (True) ∧ (pA Tryd.prog (oNil x9) fun x46 =>
 pA Tryd.prog (oFld 75 x46 0) fun x47 =>
 pN Tryd.prog (oStore 34 x47 x45) w32 fun _ w33 =>
 (True) ∧ (pN Tryd.prog (oBin .add 3 (.tmp 12) (.const (.int .i64 1)) v12l3 (.int .i64 1)) w33 fun x48 w34 =>
 (L3 x48 w34 ∧ m3 x48 w34 < m3 v12l3 w4)))))
 (pN Tryd.prog (oNil x9) w5 fun x51 w35 =>
 pN Tryd.prog (oFld 75 x51 0) w35 fun x52 w36 =>
 pN Tryd.prog (oLoad 34 x52) w36 fun x53 w37 =>
 pN Tryd.prog (oBuild 24 [(0, (.string ⟨#[109, 105, 110, 101]⟩))]) w37 fun x54 w38 =>
 pN Tryd.prog (oBs 34 1 [(0, x54)]) w38 fun x55 w39 =>
 pN Tryd.prog (oBi .append #[34, 34] 34 [false, false] [x53, x55]) w39 fun x56 w40 =>
 pN Tryd.prog (oNil x9) w40 fun x57 w41 =>
 pN Tryd.prog (oFld 75 x57 0) w41 fun x58 w42 =>
 pN Tryd.prog (oStore 34 x58 x56) w42 fun _ w43 =>
 pN Tryd.prog (oNil x9) w43 fun x60 w44 =>
 pN Tryd.prog (oFld 75 x60 0) w44 fun x61 w45 =>
 pN Tryd.prog (oLoad 34 x61) w45 fun x62 w46 =>
 pN Tryd.prog (oBi .len #[34] 3 [false] [x0]) w46 fun x64 w47 =>
 pN Tryd.prog (oSl 34 x62 none (some x64) none) w47 fun x65 w48 =>
 Q (.tuple #[x65, x9]) w48)
noncomputable def pithlaw33_room.c : Code := match Tryd.f13.body with | some c => c | none => .skip
theorem pithlaw33_room.eq [Pan] (x0 : Value) (w : World) (Q : Value → World → Prop) : cw Tryd.prog pithlaw33_room.H pithlaw33_room.c (endQ Tryd.prog Tryd.f13.results.toList Q) (argsE [x0]) w = pithlaw33_room.F x0 w Q := by kernel_rfl
theorem pithlaw33_room.calls [Pan] {x0 : Value} {w : World} {Q : Value → World → Prop} (h : pithlaw33_room.F x0 w Q) : Calls Tryd.prog 13 #[x0] w (retP Q) :=
  calls_of_cw (H := pithlaw33_room.H) (c := pithlaw33_room.c) (args := [x0]) mixed Tryd.func13 (by kernel_rfl) (by kernel_rfl) (Nat.le_of_ble_eq_true (by kernel_rfl)) ((pithlaw33_room.eq x0 w Q).mpr h)

/-! pithlaw33_Room_kept: (*pith/pithlaw33.Room).kept; temporaries: 0:r 1:l 2:r 3:l 5:i 6:x 7:d -/
def pithlaw33_Room_kept.H : Hints := { cut := fun  | _ => none, loop := fun | 2 => ([10], 18014398509481200) | _ => ([], 0), order := fun | 5 => [(0, 0), (1, 1), (2, 3), (3, 7), (4, 15), (5, 31), (6, 63), (7, 127), (8, 255), (9, 511), (10, 1023), (11, 2047), (12, 4095), (13, 8191), (14, 16383), (15, 32767), (16, 65535), (17, 131071), (18, 262143), (19, 524287), (20, 1048575), (21, 2097151), (22, 4194303), (23, 8388607), (24, 16777215), (25, 33554431), (26, 67108863), (27, 134217727), (28, 268435455), (29, 536870911), (30, 1073741823)] | _ => [] }
def pithlaw33_Room_kept.F [Pan] (x0 : Value) (x1 : Value) (w : World) (Q : Value → World → Prop) : Prop :=
 pN Tryd.prog (oBi .len #[34] 3 [false] [x1]) w fun x9 w1 =>
 ∃ (L2 : Value → World → Prop) (m2 : Value → World → Nat),
 L2 (.int .i64 0) w1 ∧
 ∀ (_k2 : Env) (v10l2 : Value) (w2 : World), L2 v10l2 w2 →
 pN Tryd.prog (oBin .lss 3 (.tmp 10) (.tmp 9) v10l2 x9) w2 fun x11 w3 =>
 pIf x11
 (pN Tryd.prog (oIdx 34 x1 v10l2) w3 fun x13 w4 =>
 pN Tryd.prog (oLoad 24 x13) w4 fun x14 w5 =>
 pN Tryd.prog (oAlloc 24) w5 fun x6 w6 =>
 pN Tryd.prog (oStore 24 x6 x14) w6 fun _ w7 =>
 pN Tryd.prog (oNil x0) w7 fun x16 w8 =>
 pN Tryd.prog (oFld 75 x16 1) w8 fun x17 w9 =>
 pN Tryd.prog (oLoad 57 x17) w9 fun x18 w10 =>
 pN Tryd.prog (oIdx 57 x18 v10l2) w10 fun x20 w11 =>
 pN Tryd.prog (oLoad 22 x20) w11 fun x21 w12 =>
 pDr w12 fun w13 =>
 pA Tryd.prog (oNil x0) fun x23 =>
 pA Tryd.prog (oFld 75 x23 0) fun x24 =>
 pL Tryd.prog (oLoad 34 x24) w13 fun x25 =>
 pA Tryd.prog (oIdx 34 x25 v10l2) fun x27 =>
 pL Tryd.prog (oLoad 24 x27) w13 fun x28 =>
 pL Tryd.prog (oLoad 24 x6) w13 fun x29 =>
 pN Tryd.prog (oCall 12 [x28, x29]) w13 fun x30 w14 =>
 (True) ∧ (pA Tryd.prog (oUn .not x30) fun x31 =>
 gA (gB x31 false) (pA Tryd.prog (oMv x21)) fun x33 =>
 gA (gB x31 false) (pA Tryd.prog (oFld 24 x6 5)) fun x34 =>
 gA (gB x31 false) (pL Tryd.prog (oLoad 22 x34) w14) fun x35 =>
 gA (gB x31 false) (pA Tryd.prog (oBi .len #[22] 3 [false] [x35])) fun x36 =>
 gA (gB x31 false) (pA Tryd.prog (oSl 22 x33 none (some x36) none)) fun x37 =>
 gA (gB x31 false) (pL Tryd.prog (oConv 22 9 x37) w14) fun x38 =>
 gA (gB x31 false) (pA Tryd.prog (oFld 24 x6 5)) fun x39 =>
 gA (gB x31 false) (pL Tryd.prog (oLoad 22 x39) w14) fun x40 =>
 gA (gB x31 false) (pL Tryd.prog (oConv 22 9 x40) w14) fun x41 =>
 gA (gB x31 false) (pA Tryd.prog (oBin .neq 9 (.tmp 38) (.tmp 41) x38 x41)) fun x42 =>
 pA Tryd.prog (oPick x31 (.bool true) x42) fun x43 =>
 gA (gB x43 false) (pA Tryd.prog (oMv x21)) fun x45 =>
 gA (gB x43 false) (pA Tryd.prog (oFld 24 x6 5)) fun x46 =>
 gA (gB x43 false) (pL Tryd.prog (oLoad 22 x46) w14) fun x47 =>
 gA (gB x43 false) (pA Tryd.prog (oBi .len #[22] 3 [false] [x47])) fun x48 =>
 gA (gB x43 false) (pA Tryd.prog (oIdx 22 x45 x48)) fun x49 =>
 gA (gB x43 false) (pL Tryd.prog (oLoad 5 x49) w14) fun x50 =>
 gA (gB x43 false) (pA Tryd.prog (oBin .neq 5 (.tmp 50) (.const (.int .u8 45)) x50 (bv 45))) fun x51 =>
 pA Tryd.prog (oPick x43 (.bool true) x51) fun x52 =>
 pIf x52
 (Q (.bool false) w14)
 (pN Tryd.prog (oBin .add 3 (.tmp 10) (.const (.int .i64 1)) v10l2 (.int .i64 1)) w14 fun x53 w15 =>
 (L2 x53 w15 ∧ m2 x53 w15 < m2 v10l2 w2))))
 (pN Tryd.prog (oNil x0) w3 fun x55 w16 =>
 pN Tryd.prog (oFld 75 x55 0) w16 fun x56 w17 =>
 pN Tryd.prog (oLoad 34 x56) w17 fun x57 w18 =>
 pN Tryd.prog (oBi .len #[34] 3 [false] [x1]) w18 fun x59 w19 =>
 pN Tryd.prog (oIdx 34 x57 x59) w19 fun x60 w20 =>
 pN Tryd.prog (oLoad 24 x60) w20 fun x61 w21 =>
 pN Tryd.prog (oBuild 24 [(0, (.string ⟨#[109, 105, 110, 101]⟩))]) w21 fun x62 w22 =>
 pN Tryd.prog (oCall 12 [x61, x62]) w22 fun x63 w23 =>
 Q x63 w23)
noncomputable def pithlaw33_Room_kept.c : Code := match Tryd.f17.body with | some c => c | none => .skip
theorem pithlaw33_Room_kept.eq [Pan] (x0 : Value) (x1 : Value) (w : World) (Q : Value → World → Prop) : cw Tryd.prog pithlaw33_Room_kept.H pithlaw33_Room_kept.c (endQ Tryd.prog Tryd.f17.results.toList Q) (argsE [x0, x1]) w = pithlaw33_Room_kept.F x0 x1 w Q := by kernel_rfl
theorem pithlaw33_Room_kept.calls [Pan] {x0 : Value} {x1 : Value} {w : World} {Q : Value → World → Prop} (h : pithlaw33_Room_kept.F x0 x1 w Q) : Calls Tryd.prog 17 #[x0, x1] w (retP Q) :=
  calls_of_cw (H := pithlaw33_Room_kept.H) (c := pithlaw33_Room_kept.c) (args := [x0, x1]) mixed Tryd.func17 (by kernel_rfl) (by kernel_rfl) (Nat.le_of_ble_eq_true (by kernel_rfl)) ((pithlaw33_Room_kept.eq x0 x1 w Q).mpr h)

/-! pithlaw33_sameAll: pith/pithlaw33.sameAll; temporaries: 0:x 1:y 2:x 3:y 5:i -/
def pithlaw33_sameAll.H : Hints := { cut := fun  | _ => none, loop := fun | 4 => ([13], 134209584) | _ => ([], 0), order := fun | 6 => [(0, 0), (1, 1), (2, 3), (3, 7), (4, 15), (5, 31), (6, 63), (7, 127), (8, 255), (9, 511)] | _ => [] }
def pithlaw33_sameAll.F [Pan] (x0 : Value) (x1 : Value) (w : World) (Q : Value → World → Prop) : Prop :=
 pN Tryd.prog (oBi .len #[34] 3 [false] [x0]) w fun x7 w1 =>
 pN Tryd.prog (oBi .len #[34] 3 [false] [x1]) w1 fun x9 w2 =>
 pN Tryd.prog (oBin .neq 3 (.tmp 7) (.tmp 9) x7 x9) w2 fun x10 w3 =>
 pIf x10
 (Q (.bool false) w3)
 (pN Tryd.prog (oBi .len #[34] 3 [false] [x0]) w3 fun x12 w4 =>
 ∃ (L4 : Value → World → Prop) (m4 : Value → World → Nat),
 L4 (.int .i64 0) w4 ∧
 ∀ (_k4 : Env) (v13l4 : Value) (w5 : World), L4 v13l4 w5 →
 pN Tryd.prog (oBin .lss 3 (.tmp 13) (.tmp 12) v13l4 x12) w5 fun x14 w6 =>
 pIf x14
 (pDr w6 fun w7 =>
 pA Tryd.prog (oIdx 34 x0 v13l4) fun x18 =>
 pL Tryd.prog (oLoad 24 x18) w7 fun x19 =>
 pA Tryd.prog (oIdx 34 x1 v13l4) fun x22 =>
 pL Tryd.prog (oLoad 24 x22) w7 fun x23 =>
 pN Tryd.prog (oCall 12 [x19, x23]) w7 fun x24 w8 =>
 (True) ∧ (pA Tryd.prog (oUn .not x24) fun x25 =>
 pIf x25
 (Q (.bool false) w8)
 (pN Tryd.prog (oBin .add 3 (.tmp 13) (.const (.int .i64 1)) v13l4 (.int .i64 1)) w8 fun x26 w9 =>
 (L4 x26 w9 ∧ m4 x26 w9 < m4 v13l4 w5))))
 (Q (.bool true) w6))
noncomputable def pithlaw33_sameAll.c : Code := match Tryd.f21.body with | some c => c | none => .skip
theorem pithlaw33_sameAll.eq [Pan] (x0 : Value) (x1 : Value) (w : World) (Q : Value → World → Prop) : cw Tryd.prog pithlaw33_sameAll.H pithlaw33_sameAll.c (endQ Tryd.prog Tryd.f21.results.toList Q) (argsE [x0, x1]) w = pithlaw33_sameAll.F x0 x1 w Q := by kernel_rfl
theorem pithlaw33_sameAll.calls [Pan] {x0 : Value} {x1 : Value} {w : World} {Q : Value → World → Prop} (h : pithlaw33_sameAll.F x0 x1 w Q) : Calls Tryd.prog 21 #[x0, x1] w (retP Q) :=
  calls_of_cw (H := pithlaw33_sameAll.H) (c := pithlaw33_sameAll.c) (args := [x0, x1]) mixed Tryd.func21 (by kernel_rfl) (by kernel_rfl) (Nat.le_of_ble_eq_true (by kernel_rfl)) ((pithlaw33_sameAll.eq x0 x1 w Q).mpr h)

/-! pithlaw33_TarLists_c1: pith/pithlaw33.TarLists$1; temporaries: 0:b 3:b -/
def pithlaw33_TarLists_c1.H : Hints := { cut := fun  | _ => none, loop := fun  | _ => ([], 0), order := fun  | _ => [] }
def pithlaw33_TarLists_c1.F [Pan] (x0 : Value) (x1 : Value) (x2 : Value) (w : World) (Q : Value → World → Prop) : Prop :=
 pDr w fun w1 =>
 pL Tryd.prog (oLoad 57 x1) w1 fun x4 =>
 pL Tryd.prog (oLoad 58 x2) w1 fun x8 =>
 pL Tryd.prog (oConv 22 9 x0) w1 fun x10 =>
 (pN Tryd.prog (oBs 57 1 [(0, x0)]) w1 fun x6 w2 =>
 ((Sem.run Tryd.prog (oConv 22 9 x0) w2 = .ok (.value x10) w2) ∧ (Sem.run Tryd.prog (oLoad 58 x2) w2 = .ok (.value x8) w2) ∧ (Sem.run Tryd.prog (oLoad 57 x1) w2 = .ok (.value x4) w2) ∧ True) ∧ ((pN Tryd.prog (oBi .append #[57, 57] 57 [false, false] [x4, x6]) w2 fun x7 w3 =>
 ((Sem.run Tryd.prog (oConv 22 9 x0) w3 = .ok (.value x10) w3) ∧ (Sem.run Tryd.prog (oLoad 58 x2) w3 = .ok (.value x8) w3) ∧ True) ∧ (pN Tryd.prog (oBs 58 1 [(0, x10)]) w3 fun x11 w4 =>
 ((Sem.run Tryd.prog (oLoad 58 x2) w4 = .ok (.value x8) w4) ∧ True) ∧ (pN Tryd.prog (oBi .append #[58, 58] 58 [false, false] [x8, x11]) w4 fun x12 w5 =>
 (True) ∧ (pN Tryd.prog (oStore 57 x1 x7) w5 fun _ w6 =>
 (True) ∧ (pN Tryd.prog (oStore 58 x2 x12) w6 fun _ w7 =>
 (True) ∧ (Q (.tuple #[]) w7)))))) ∧ (pN Tryd.prog (oBs 58 1 [(0, x10)]) w2 fun x11 w8 =>
 ((Sem.run Tryd.prog (oLoad 58 x2) w8 = .ok (.value x8) w8) ∧ (Sem.run Tryd.prog (oLoad 57 x1) w8 = .ok (.value x4) w8) ∧ True) ∧ (pN Tryd.prog (oBi .append #[57, 57] 57 [false, false] [x4, x6]) w8 fun x7 w9 =>
 ((Sem.run Tryd.prog (oLoad 58 x2) w9 = .ok (.value x8) w9) ∧ True) ∧ (pN Tryd.prog (oBi .append #[58, 58] 58 [false, false] [x8, x11]) w9 fun x12 w10 =>
 (True) ∧ (pN Tryd.prog (oStore 57 x1 x7) w10 fun _ w11 =>
 (True) ∧ (pN Tryd.prog (oStore 58 x2 x12) w11 fun _ w12 =>
 (True) ∧ (Q (.tuple #[]) w12)))))))) ∧ (pN Tryd.prog (oBs 58 1 [(0, x10)]) w1 fun x11 w13 =>
 ((Sem.run Tryd.prog (oLoad 58 x2) w13 = .ok (.value x8) w13) ∧ (Sem.run Tryd.prog (oLoad 57 x1) w13 = .ok (.value x4) w13) ∧ True) ∧ (pN Tryd.prog (oBs 57 1 [(0, x0)]) w13 fun x6 w14 =>
 ((Sem.run Tryd.prog (oLoad 58 x2) w14 = .ok (.value x8) w14) ∧ (Sem.run Tryd.prog (oLoad 57 x1) w14 = .ok (.value x4) w14) ∧ True) ∧ (pN Tryd.prog (oBi .append #[57, 57] 57 [false, false] [x4, x6]) w14 fun x7 w15 =>
 ((Sem.run Tryd.prog (oLoad 58 x2) w15 = .ok (.value x8) w15) ∧ True) ∧ (pN Tryd.prog (oBi .append #[58, 58] 58 [false, false] [x8, x11]) w15 fun x12 w16 =>
 (True) ∧ (pN Tryd.prog (oStore 57 x1 x7) w16 fun _ w17 =>
 (True) ∧ (pN Tryd.prog (oStore 58 x2 x12) w17 fun _ w18 =>
 (True) ∧ (Q (.tuple #[]) w18)))))))
noncomputable def pithlaw33_TarLists_c1.c : Code := match Tryd.f24.body with | some c => c | none => .skip
theorem pithlaw33_TarLists_c1.eq [Pan] (x0 : Value) (x1 : Value) (x2 : Value) (w : World) (Q : Value → World → Prop) : cw Tryd.prog pithlaw33_TarLists_c1.H pithlaw33_TarLists_c1.c (endQ Tryd.prog Tryd.f24.results.toList Q) (argsE [x0, x1, x2]) w = pithlaw33_TarLists_c1.F x0 x1 x2 w Q := by kernel_rfl
theorem pithlaw33_TarLists_c1.calls [Pan] {x0 : Value} {x1 : Value} {x2 : Value} {w : World} {Q : Value → World → Prop} (h : pithlaw33_TarLists_c1.F x0 x1 x2 w Q) : Calls Tryd.prog 24 #[x0, x1, x2] w (retP Q) :=
  calls_of_cw (H := pithlaw33_TarLists_c1.H) (c := pithlaw33_TarLists_c1.c) (args := [x0, x1, x2]) mixed Tryd.func24 (by kernel_rfl) (by kernel_rfl) (Nat.le_of_ble_eq_true (by kernel_rfl)) ((pithlaw33_TarLists_c1.eq x0 x1 x2 w Q).mpr h)

/-! pithlaw33_tail: pith/pithlaw33.tail; temporaries: 0:i 1:i 3:b -/
def pithlaw33_tail.H : Hints := { cut := fun  | _ => none, loop := fun | 3 => ([3, 4], 8184) | _ => ([], 0), order := fun  | _ => [] }
def pithlaw33_tail.F [Pan] (x0 : Value) (w : World) (Q : Value → World → Prop) : Prop :=
 ∃ (L3 : Value → Value → World → Prop) (m3 : Value → Value → World → Nat),
 L3 (.slice none 0 0) (.int .i64 0) w ∧
 ∀ (_k3 : Env) (b3l3 : Value) (v4l3 : Value) (w1 : World), L3 b3l3 v4l3 w1 →
 pN Tryd.prog (oBin .lss 3 (.tmp 4) (.const (.int .i64 1200)) v4l3 (.int .i64 1200)) w1 fun x5 w2 =>
 pIf x5
 (pN Tryd.prog (oBin .add 3 (.tmp 7) (.const (.int .i64 100)) x0 (.int .i64 100)) w2 fun x8 w3 =>
 pN Tryd.prog (oConv 3 5 x8) w3 fun x9 w4 =>
 pN Tryd.prog (oBs 22 1 [(0, x9)]) w4 fun x10 w5 =>
 pN Tryd.prog (oBi .append #[22, 22] 22 [false, false] [b3l3, x10]) w5 fun x11 w6 =>
 pN Tryd.prog (oBin .add 3 (.tmp 4) (.const (.int .i64 1)) v4l3 (.int .i64 1)) w6 fun x12 w7 =>
 (L3 x11 x12 w7 ∧ m3 x11 x12 w7 < m3 b3l3 v4l3 w1))
 (Q b3l3 w2)
noncomputable def pithlaw33_tail.c : Code := match Tryd.f25.body with | some c => c | none => .skip
theorem pithlaw33_tail.eq [Pan] (x0 : Value) (w : World) (Q : Value → World → Prop) : cw Tryd.prog pithlaw33_tail.H pithlaw33_tail.c (endQ Tryd.prog Tryd.f25.results.toList Q) (argsE [x0]) w = pithlaw33_tail.F x0 w Q := by kernel_rfl
theorem pithlaw33_tail.calls [Pan] {x0 : Value} {w : World} {Q : Value → World → Prop} (h : pithlaw33_tail.F x0 w Q) : Calls Tryd.prog 25 #[x0] w (retP Q) :=
  calls_of_cw (H := pithlaw33_tail.H) (c := pithlaw33_tail.c) (args := [x0]) mixed Tryd.func25 (by kernel_rfl) (by kernel_rfl) (Nat.le_of_ble_eq_true (by kernel_rfl)) ((pithlaw33_tail.eq x0 w Q).mpr h)

end Go.Proofs.YteeepkimnpabiaaDoor
