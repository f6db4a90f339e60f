/-
  Printed by a program of mine (lift.py): each function of the seat as a plain proposition over values and worlds; that the program meets it.
-/
import Derived.Test.YtbgnnjfpiblkmaaDoorRows
import Derived.Test.YtbgnnjfpiblkmaaDoorFacts
namespace Go.Proofs.YtbgnnjfpiblkmaaDoor
open Go
set_option linter.unusedSimpArgs false
set_option linter.unnecessarySimpa false
set_option linter.unusedSectionVars false
set_option linter.unusedVariables false
set_option maxRecDepth 100000

/-! pithlaw14_LzencRefused: pith/pithlaw14.LzencRefused; temporaries: 0:o 1:l 2:o 3:l 5:e 6:f 7:c 8:g 9:_ 10:y 11:size 12:n 13:y -/
def pithlaw14_LzencRefused.H : Hints := { cut := fun | 15 => some ([], 158456324991635187039668804624) | _ => none, loop := fun | 6 => ([63], 316912650047833978337321032720) | _ => ([], 0), order := fun | 19 => [(0, 0), (1, 1), (2, 3), (3, 7), (4, 15), (5, 31), (6, 63), (7, 127), (8, 255), (9, 511), (10, 1023), (11, 2047), (12, 4095), (13, 8191), (16, 16383), (14, 81919), (15, 98303), (17, 131071), (18, 262143), (19, 524287), (20, 1048575), (21, 2097151), (22, 4194303), (23, 8388607), (24, 16777215)] | _ => [] }
def pithlaw14_LzencRefused.F [Pan] (x0 : Value) (x1 : Value) (w : World) (Q : Value → World → Prop) : Prop :=
 pN Tryd.prog (oBox 25 x0) w fun x2 w1 =>
 pN Tryd.prog (oFld 25 x2 0) w1 fun x15 w2 =>
 pN Tryd.prog (oLoad 23 x15) w2 fun x16 w3 =>
 pN Tryd.prog (oFld 25 x2 1) w3 fun x17 w4 =>
 pN Tryd.prog (oLoad 3 x17) w4 fun x18 w5 =>
 pN Tryd.prog (oCall 5 [x16, x18]) w5 fun x19 w6 =>
 pN Tryd.prog (oExt x19 0) w6 fun x20 w7 =>
 pN Tryd.prog (oExt x19 1) w7 fun x21 w8 =>
 pN Tryd.prog (oFld 25 x2 0) w8 fun x23 w9 =>
 pN Tryd.prog (oLoad 23 x23) w9 fun x24 w10 =>
 pN Tryd.prog (oFld 25 x2 1) w10 fun x25 w11 =>
 pN Tryd.prog (oLoad 3 x25) w11 fun x26 w12 =>
 pN Tryd.prog (oCall 5 [x24, x26]) w12 fun x27 w13 =>
 pN Tryd.prog (oExt x27 0) w13 fun x28 w14 =>
 pN Tryd.prog (oExt x27 1) w14 fun x29 w15 =>
 pN Tryd.prog (oCall 6 [x21]) w15 fun x31 w16 =>
 pN Tryd.prog (oCall 6 [x29]) w16 fun x33 w17 =>
 pN Tryd.prog (oBin .neq 3 (.tmp 31) (.tmp 33) x31 x33) w17 fun x34 w18 =>
 pGd (gB x34 false) (pN Tryd.prog (oMv x21) w18) w18 fun x36 w19 =>
 pGd (gB x34 false) (pN Tryd.prog (oCall 6 [x36]) w19) w19 fun x37 w20 =>
 pGd (gB x34 false) (pN Tryd.prog (oBin .neq 3 (.tmp 37) (.const (.int .i64 0)) x37 (.int .i64 0)) w20) w20 fun x38 w21 =>
 pN Tryd.prog (oPick x34 (.bool true) x38) w21 fun x39 w22 =>
 pGd (gB x39 false) (pN Tryd.prog (oMv x20) w22) w22 fun x41 w23 =>
 pGd (gB x39 false) (pN Tryd.prog (oBin .eql 27 (.tmp 41) (.const (.pointer none)) x41 (.pointer none)) w23) w23 fun x42 w24 =>
 pN Tryd.prog (oPick x39 (.bool true) x42) w24 fun x43 w25 =>
 pGd (gB x43 false) (pN Tryd.prog (oMv x28) w25) w25 fun x45 w26 =>
 pGd (gB x43 false) (pN Tryd.prog (oBin .eql 27 (.tmp 45) (.const (.pointer none)) x45 (.pointer none)) w26) w26 fun x46 w27 =>
 pN Tryd.prog (oPick x43 (.bool true) x46) w27 fun x47 w28 =>
 pIf x47
 (pN Tryd.prog (oCall 6 [x21]) w28 fun x49 w29 =>
 pN Tryd.prog (oCall 6 [x29]) w29 fun x51 w30 =>
 pN Tryd.prog (oBin .eql 3 (.tmp 49) (.tmp 51) x49 x51) w30 fun x52 w31 =>
 pGd (gB x52 true) (pN Tryd.prog (oMv x21) w31) w31 fun x54 w32 =>
 pGd (gB x52 true) (pN Tryd.prog (oCall 6 [x54]) w32) w32 fun x55 w33 =>
 pGd (gB x52 true) (pN Tryd.prog (oBin .neq 3 (.tmp 55) (.const (.int .i64 0)) x55 (.int .i64 0)) w33) w33 fun x56 w34 =>
 pN Tryd.prog (oPick x52 x56 (.bool false)) w34 fun x57 w35 =>
 pGd (gB x57 true) (pN Tryd.prog (oCall 7 []) w35) w35 fun x59 w36 =>
 pN Tryd.prog (oPick x57 x59 (.bool false)) w36 fun x60 w37 =>
 Q x60 w37)
 (pN Tryd.prog (oBi .len #[26] 3 [false] [x1]) w28 fun x62 w38 =>
 ∃ (L6 : Value → World → Prop) (m6 : Value → World → Nat),
 L6 (.int .i64 0) w38 ∧
 ∀ (_k6 : Env) (v63l6 : Value) (w39 : World), L6 v63l6 w39 →
 pN Tryd.prog (oBin .lss 3 (.tmp 63) (.tmp 62) v63l6 x62) w39 fun x64 w40 =>
 pIf x64
 (∃ I15 : World → Prop,
 (pN Tryd.prog (oIdx 26 x1 v63l6) w40 fun x65 w41 =>
 pN Tryd.prog (oLoad 34 x65) w41 fun x66 w42 =>
 pN Tryd.prog (oAlloc 34) w42 fun x10 w43 =>
 pN Tryd.prog (oStore 34 x10 x66) w43 fun _ w44 =>
 pN Tryd.prog (oCall 8 [x20]) w44 fun x68 w45 =>
 pN Tryd.prog (oLoad 34 x10) w45 fun x70 w46 =>
 pN Tryd.prog (oCall 9 [x20, x70]) w46 fun x71 w47 =>
 pN Tryd.prog (oCall 6 [x71]) w47 fun x72 w48 =>
 pN Tryd.prog (oBin .eql 3 (.tmp 73) (.const (.int .i64 0)) x72 (.int .i64 0)) w48 fun x74 w49 =>
 pIf x74
 (pN Tryd.prog (oLoad 34 x10) w49 fun x76 w50 =>
 pN Tryd.prog (oCall 9 [x28, x76]) w50 fun x77 w51 =>
 pN Tryd.prog (oCall 6 [x77]) w51 fun x78 w52 =>
 pN Tryd.prog (oBin .neq 3 (.tmp 78) (.const (.int .i64 0)) x78 (.int .i64 0)) w52 fun x79 w53 =>
 pIf x79
 (Q (.bool false) w53)
 (I15 w53))
 (pN Tryd.prog (oBin .neq 3 (.tmp 80) (.const (.int .i64 6)) x72 (.int .i64 6)) w49 fun x81 w54 =>
 pGd (gB x81 true) (pN Tryd.prog (oMv x72) w54) w54 fun x83 w55 =>
 pGd (gB x81 true) (pN Tryd.prog (oBin .neq 3 (.tmp 83) (.const (.int .i64 7)) x83 (.int .i64 7)) w55) w55 fun x84 w56 =>
 pN Tryd.prog (oPick x81 x84 (.bool false)) w56 fun x85 w57 =>
 pGd (gB x85 false) (pN Tryd.prog (oMv x20) w57) w57 fun x87 w58 =>
 pGd (gB x85 false) (pN Tryd.prog (oCall 8 [x87]) w58) w58 fun x88 w59 =>
 pGd (gB x85 false) (pN Tryd.prog (oMv x68) w59) w59 fun x89 w60 =>
 pGd (gB x85 false) (pN Tryd.prog (oBin .neq 3 (.tmp 88) (.tmp 89) x88 x89) w60) w60 fun x90 w61 =>
 pN Tryd.prog (oPick x85 (.bool true) x90) w61 fun x91 w62 =>
 pGd (gB x91 false) (pN Tryd.prog (oFld 34 x10 0) w62) w62 fun x93 w63 =>
 pGd (gB x91 false) (pN Tryd.prog (oLoad 3 x93) w63) w63 fun x94 w64 =>
 pGd (gB x91 false) (pN Tryd.prog (oBin .eql 3 (.tmp 94) (.const (.int .i64 1)) x94 (.int .i64 1)) w64) w64 fun x95 w65 =>
 pN Tryd.prog (oPick x91 (.bool true) x95) w65 fun x96 w66 =>
 pIf x96
 (Q (.bool false) w66)
 (I15 w66))) ∧
 ∀ (_j15 : Env) (w67 : World), I15 w67 →
 pN Tryd.prog (oBin .add 3 (.tmp 63) (.const (.int .i64 1)) v63l6 (.int .i64 1)) w67 fun x97 w68 =>
 (L6 x97 w68 ∧ m6 x97 w68 < m6 v63l6 w39))
 (pN Tryd.prog (oBuild 23 [(0, (.int .i64 5))]) w40 fun x99 w69 =>
 pN Tryd.prog (oCall 10 [x20, x99]) w69 fun x100 w70 =>
 pN Tryd.prog (oCall 6 [x100]) w70 fun x101 w71 =>
 pN Tryd.prog (oBin .neq 3 (.tmp 101) (.const (.int .i64 6)) x101 (.int .i64 6)) w71 fun x102 w72 =>
 pGd (gB x102 false) (pN Tryd.prog (oMv x20) w72) w72 fun x104 w73 =>
 pGd (gB x102 false) (pN Tryd.prog (oBuild 23 [(0, (.int .i64 2)), (1, (.int .i64 3))]) w73) w73 fun x105 w74 =>
 pGd (gB x102 false) (pN Tryd.prog (oCall 10 [x104, x105]) w74) w74 fun x106 w75 =>
 pGd (gB x102 false) (pN Tryd.prog (oCall 6 [x106]) w75) w75 fun x107 w76 =>
 pGd (gB x102 false) (pN Tryd.prog (oBin .neq 3 (.tmp 107) (.const (.int .i64 6)) x107 (.int .i64 6)) w76) w76 fun x108 w77 =>
 pN Tryd.prog (oPick x102 (.bool true) x108) w77 fun x109 w78 =>
 pIf x109
 (Q (.bool false) w78)
 (pN Tryd.prog (oBuild 34 [(0, (.int .i64 1)), (1, (bv 7))]) w78 fun x110 w79 =>
 pN Tryd.prog (oAlloc 34) w79 fun x13 w80 =>
 pN Tryd.prog (oStore 34 x13 x110) w80 fun _ w81 =>
 pDr w81 fun w82 =>
 pL Tryd.prog (oLoad 34 x13) w82 fun x112 =>
 pN Tryd.prog (oCall 9 [x20, x112]) w82 fun x113 w83 =>
 (True) ∧ (pN Tryd.prog (oCall 6 [x113]) w83 fun x114 w84 =>
 (True) ∧ (pA Tryd.prog (oBin .eql 3 (.tmp 114) (.const (.int .i64 0)) x114 (.int .i64 0)) fun x115 =>
 gA (gB x115 true) (pA Tryd.prog (oMv x28)) fun x117 =>
 gA (gB x115 true) (pL Tryd.prog (oLoad 34 x13) w84) fun x118 =>
 pGd (gB x115 true) (pN Tryd.prog (oCall 9 [x117, x118]) w84) w84 fun x119 w85 =>
 (True) ∧ (pGd (gB x115 true) (pN Tryd.prog (oCall 6 [x119]) w85) w85 fun x120 w86 =>
 (True) ∧ (gA (gB x115 true) (pA Tryd.prog (oBin .eql 3 (.tmp 120) (.const (.int .i64 0)) x120 (.int .i64 0))) fun x121 =>
 pA Tryd.prog (oPick x115 x121 (.bool false)) fun x122 =>
 gA (gB x122 true) (pA Tryd.prog (oMv x20)) fun x124 =>
 gA (gB x122 true) (pA Tryd.prog (oMv x28)) fun x127 =>
 pGd (gB x122 true) (pN Tryd.prog (oCall 11 [x124]) w86) w86 fun x125 w87 =>
 (True) ∧ (gA (gB x122 true) (pL Tryd.prog (oConv 38 9 x125) w87) fun x126 =>
 pGd (gB x122 true) (pN Tryd.prog (oCall 11 [x127]) w87) w87 fun x128 w88 =>
 ((((gB x122 true) = true → Sem.run Tryd.prog (oConv 38 9 x125) w88 = .ok (.value x126) w88)) ∧ True) ∧ (gA (gB x122 true) (pL Tryd.prog (oConv 38 9 x128) w88) fun x129 =>
 gA (gB x122 true) (pA Tryd.prog (oBin .eql 9 (.tmp 126) (.tmp 129) x126 x129)) fun x130 =>
 pA Tryd.prog (oPick x122 x130 (.bool false)) fun x131 =>
 pGd (gB x131 true) (pN Tryd.prog (oCall 7 []) w88) w88 fun x133 w89 =>
 (True) ∧ (pA Tryd.prog (oPick x131 x133 (.bool false)) fun x134 =>
 Q x134 w89))))))))))
noncomputable def pithlaw14_LzencRefused.c : Code := match Tryd.f3.body with | some c => c | none => .skip
theorem pithlaw14_LzencRefused.eq [Pan] (x0 : Value) (x1 : Value) (w : World) (Q : Value → World → Prop) : cw Tryd.prog pithlaw14_LzencRefused.H pithlaw14_LzencRefused.c (endQ Tryd.prog Tryd.f3.results.toList Q) (argsE [x0, x1]) w = pithlaw14_LzencRefused.F x0 x1 w Q := by kernel_rfl
theorem pithlaw14_LzencRefused.calls [Pan] {x0 : Value} {x1 : Value} {w : World} {Q : Value → World → Prop} (h : pithlaw14_LzencRefused.F x0 x1 w Q) : Calls Tryd.prog 3 #[x0, x1] w (retP Q) :=
  calls_of_cw (H := pithlaw14_LzencRefused.H) (c := pithlaw14_LzencRefused.c) (args := [x0, x1]) mixed Tryd.func3 (by kernel_rfl) (by kernel_rfl) (Nat.le_of_ble_eq_true (by kernel_rfl)) ((pithlaw14_LzencRefused.eq x0 x1 w Q).mpr h)

/-! pithlaw14_LzencForks: pith/pithlaw14.LzencForks; temporaries: 0:o 1:before 2:behind 3:o 4:before 5:behind 7:e 8:f 9:_ 10:y 11:c 12:_ 13:y 14:n 15:f 16:size 17:m 18:g 19:d 20:size 21:x 22:y 23:was 24:z 25:last 26:i 27:i -/
def pithlaw14_LzencForks.H : Hints := { cut := fun  | _ => none, loop := fun | 5 => ([55], 9187343239835812864) | 13 => ([69], 45671926166590716193865150432088034005542756416) | 28 => ([159], 46037301575923441923416072230562915119161875103744) | 39 => ([205], 52604723816862305660141671054880298956166837204473506256492953600) | 45 => ([27], 883420162395858770961674416994573380459907743794756661489242962829246528) | _ => ([], 0), order := fun  | _ => [] }
def pithlaw14_LzencForks.F [Pan] (x0 : Value) (x1 : Value) (x2 : Value) (w : World) (Q : Value → World → Prop) : Prop :=
 pN Tryd.prog (oBox 25 x0) w fun x3 w1 =>
 pN Tryd.prog (oFld 25 x3 0) w1 fun x29 w2 =>
 pN Tryd.prog (oLoad 23 x29) w2 fun x30 w3 =>
 pN Tryd.prog (oFld 25 x3 1) w3 fun x31 w4 =>
 pN Tryd.prog (oLoad 3 x31) w4 fun x32 w5 =>
 pN Tryd.prog (oCall 5 [x30, x32]) w5 fun x33 w6 =>
 pN Tryd.prog (oExt x33 0) w6 fun x34 w7 =>
 pN Tryd.prog (oExt x33 1) w7 fun x35 w8 =>
 pN Tryd.prog (oCall 6 [x35]) w8 fun x37 w9 =>
 pN Tryd.prog (oBin .neq 3 (.tmp 37) (.const (.int .i64 0)) x37 (.int .i64 0)) w9 fun x38 w10 =>
 pGd (gB x38 false) (pN Tryd.prog (oMv x34) w10) w10 fun x40 w11 =>
 pGd (gB x38 false) (pN Tryd.prog (oBin .eql 27 (.tmp 40) (.const (.pointer none)) x40 (.pointer none)) w11) w11 fun x41 w12 =>
 pN Tryd.prog (oPick x38 (.bool true) x41) w12 fun x42 w13 =>
 pIf x42
 (pN Tryd.prog (oBin .eql 27 (.tmp 43) (.const (.pointer none)) x34 (.pointer none)) w13 fun x44 w14 =>
 pGd (gB x44 true) (pN Tryd.prog (oMv x35) w14) w14 fun x46 w15 =>
 pGd (gB x44 true) (pN Tryd.prog (oCall 6 [x46]) w15) w15 fun x47 w16 =>
 pGd (gB x44 true) (pN Tryd.prog (oBin .neq 3 (.tmp 47) (.const (.int .i64 0)) x47 (.int .i64 0)) w16) w16 fun x48 w17 =>
 pN Tryd.prog (oPick x44 x48 (.bool false)) w17 fun x49 w18 =>
 pGd (gB x49 true) (pN Tryd.prog (oCall 7 []) w18) w18 fun x51 w19 =>
 pN Tryd.prog (oPick x49 x51 (.bool false)) w19 fun x52 w20 =>
 Q x52 w20)
 (pN Tryd.prog (oBi .len #[26] 3 [false] [x1]) w13 fun x54 w21 =>
 ∃ (L5 : Value → World → Prop) (m5 : Value → World → Nat),
 L5 (.int .i64 0) w21 ∧
 ∀ (_k5 : Env) (v55l5 : Value) (w22 : World), L5 v55l5 w22 →
 pN Tryd.prog (oBin .lss 3 (.tmp 55) (.tmp 54) v55l5 x54) w22 fun x56 w23 =>
 pIf x56
 (pN Tryd.prog (oIdx 26 x1 v55l5) w23 fun x57 w24 =>
 pN Tryd.prog (oLoad 34 x57) w24 fun x58 w25 =>
 pN Tryd.prog (oAlloc 34) w25 fun x10 w26 =>
 pN Tryd.prog (oStore 34 x10 x58) w26 fun _ w27 =>
 pN Tryd.prog (oLoad 34 x10) w27 fun x60 w28 =>
 pN Tryd.prog (oCall 9 [x34, x60]) w28 fun _ w29 =>
 pN Tryd.prog (oBin .add 3 (.tmp 55) (.const (.int .i64 1)) v55l5 (.int .i64 1)) w29 fun x62 w30 =>
 (L5 x62 w30 ∧ m5 x62 w30 < m5 v55l5 w22))
 (pN Tryd.prog (oCall 12 [x34]) w23 fun x64 w31 =>
 pN Tryd.prog (oBin .eql 27 (.tmp 65) (.const (.pointer none)) x64 (.pointer none)) w31 fun x66 w32 =>
 pIf x66
 (Q (.bool false) w32)
 (pN Tryd.prog (oBi .len #[26] 3 [false] [x2]) w32 fun x68 w33 =>
 ∃ (L13 : Value → World → Prop) (m13 : Value → World → Nat),
 L13 (.int .i64 0) w33 ∧
 ∀ (_k13 : Env) (v69l13 : Value) (w34 : World), L13 v69l13 w34 →
 pN Tryd.prog (oBin .lss 3 (.tmp 69) (.tmp 68) v69l13 x68) w34 fun x70 w35 =>
 pIf x70
 (pN Tryd.prog (oIdx 26 x2 v69l13) w35 fun x71 w36 =>
 pN Tryd.prog (oLoad 34 x71) w36 fun x72 w37 =>
 pN Tryd.prog (oAlloc 34) w37 fun x13 w38 =>
 pN Tryd.prog (oStore 34 x13 x72) w38 fun _ w39 =>
 pN Tryd.prog (oLoad 34 x13) w39 fun x75 w40 =>
 pN Tryd.prog (oCall 13 [x34, x75]) w40 fun x76 w41 =>
 pN Tryd.prog (oExt x76 0) w41 fun x77 w42 =>
 pN Tryd.prog (oExt x76 1) w42 fun x78 w43 =>
 pN Tryd.prog (oCall 8 [x34]) w43 fun x80 w44 =>
 pN Tryd.prog (oLoad 34 x13) w44 fun x83 w45 =>
 pN Tryd.prog (oCall 13 [x64, x83]) w45 fun x84 w46 =>
 pN Tryd.prog (oExt x84 0) w46 fun x85 w47 =>
 pN Tryd.prog (oExt x84 1) w47 fun x86 w48 =>
 pN Tryd.prog (oBin .neq 3 (.tmp 87) (.tmp 88) x77 x85) w48 fun x89 w49 =>
 pGd (gB x89 false) (pN Tryd.prog (oMv x78) w49) w49 fun x91 w50 =>
 pGd (gB x89 false) (pN Tryd.prog (oCall 6 [x91]) w50) w50 fun x92 w51 =>
 pGd (gB x89 false) (pN Tryd.prog (oMv x86) w51) w51 fun x93 w52 =>
 pGd (gB x89 false) (pN Tryd.prog (oCall 6 [x93]) w52) w52 fun x94 w53 =>
 pGd (gB x89 false) (pN Tryd.prog (oBin .neq 3 (.tmp 92) (.tmp 94) x92 x94) w53) w53 fun x95 w54 =>
 pN Tryd.prog (oPick x89 (.bool true) x95) w54 fun x96 w55 =>
 pGd (gB x96 false) (pN Tryd.prog (oMv x64) w55) w55 fun x98 w56 =>
 pGd (gB x96 false) (pN Tryd.prog (oCall 8 [x98]) w56) w56 fun x99 w57 =>
 pGd (gB x96 false) (pN Tryd.prog (oMv x80) w57) w57 fun x100 w58 =>
 pGd (gB x96 false) (pN Tryd.prog (oBin .neq 3 (.tmp 99) (.tmp 100) x99 x100) w58) w58 fun x101 w59 =>
 pN Tryd.prog (oPick x96 (.bool true) x101) w59 fun x102 w60 =>
 pGd (gB x102 false) (pN Tryd.prog (oMv x34) w60) w60 fun x104 w61 =>
 pGd (gB x102 false) (pN Tryd.prog (oLoad 34 x13) w61) w61 fun x105 w62 =>
 pGd (gB x102 false) (pN Tryd.prog (oCall 9 [x104, x105]) w62) w62 fun x106 w63 =>
 pGd (gB x102 false) (pN Tryd.prog (oCall 6 [x106]) w63) w63 fun x107 w64 =>
 pGd (gB x102 false) (pN Tryd.prog (oMv x78) w64) w64 fun x108 w65 =>
 pGd (gB x102 false) (pN Tryd.prog (oCall 6 [x108]) w65) w65 fun x109 w66 =>
 pGd (gB x102 false) (pN Tryd.prog (oBin .neq 3 (.tmp 107) (.tmp 109) x107 x109) w66) w66 fun x110 w67 =>
 pN Tryd.prog (oPick x102 (.bool true) x110) w67 fun x111 w68 =>
 pIf x111
 (Q (.bool false) w68)
 (pN Tryd.prog (oCall 6 [x78]) w68 fun x113 w69 =>
 pN Tryd.prog (oBin .neq 3 (.tmp 113) (.const (.int .i64 0)) x113 (.int .i64 0)) w69 fun x114 w70 =>
 pGd (gB x114 true) (pN Tryd.prog (oMv x77) w70) w70 fun x116 w71 =>
 pGd (gB x114 true) (pN Tryd.prog (oBin .neq 3 (.tmp 116) (.const (.int .i64 0)) x116 (.int .i64 0)) w71) w71 fun x117 w72 =>
 pGd (gB x114 true) (pN Tryd.prog (oMv x117) w72) w72 fun x118 w73 =>
 pGd (gB x118 false) (pN Tryd.prog (oMv x34) w73) w73 fun x119 w74 =>
 pGd (gB x118 false) (pN Tryd.prog (oCall 8 [x119]) w74) w74 fun x120 w75 =>
 pGd (gB x118 false) (pN Tryd.prog (oMv x80) w75) w75 fun x121 w76 =>
 pGd (gB x118 false) (pN Tryd.prog (oBin .neq 3 (.tmp 120) (.tmp 121) x120 x121) w76) w76 fun x122 w77 =>
 pGd (gB x114 true) (pN Tryd.prog (oPick x118 (.bool true) x122) w77) w77 fun x123 w78 =>
 pN Tryd.prog (oPick x114 x123 (.bool false)) w78 fun x124 w79 =>
 pGd (gB x124 false) (pN Tryd.prog (oMv x78) w79) w79 fun x126 w80 =>
 pGd (gB x124 false) (pN Tryd.prog (oCall 6 [x126]) w80) w80 fun x127 w81 =>
 pGd (gB x124 false) (pN Tryd.prog (oBin .eql 3 (.tmp 127) (.const (.int .i64 0)) x127 (.int .i64 0)) w81) w81 fun x128 w82 =>
 pGd (gB x124 false) (pN Tryd.prog (oMv x128) w82) w82 fun x129 w83 =>
 pGd (gB x129 true) (pN Tryd.prog (oMv x77) w83) w83 fun x130 w84 =>
 pGd (gB x129 true) (pN Tryd.prog (oBin .lss 3 (.tmp 130) (.const (.int .i64 1)) x130 (.int .i64 1)) w84) w84 fun x131 w85 =>
 pGd (gB x124 false) (pN Tryd.prog (oPick x129 x131 (.bool false)) w85) w85 fun x132 w86 =>
 pN Tryd.prog (oPick x124 (.bool true) x132) w86 fun x133 w87 =>
 pIf x133
 (Q (.bool false) w87)
 (pN Tryd.prog (oCall 8 [x64]) w87 fun x135 w88 =>
 pN Tryd.prog (oBin .neq 3 (.tmp 135) (.tmp 136) x135 x80) w88 fun x137 w89 =>
 pGd (gB x137 false) (pN Tryd.prog (oMv x64) w89) w89 fun x139 w90 =>
 pGd (gB x137 false) (pN Tryd.prog (oLoad 34 x13) w90) w90 fun x140 w91 =>
 pGd (gB x137 false) (pN Tryd.prog (oCall 9 [x139, x140]) w91) w91 fun x141 w92 =>
 pGd (gB x137 false) (pN Tryd.prog (oCall 6 [x141]) w92) w92 fun x142 w93 =>
 pGd (gB x137 false) (pN Tryd.prog (oMv x78) w93) w93 fun x143 w94 =>
 pGd (gB x137 false) (pN Tryd.prog (oCall 6 [x143]) w94) w94 fun x144 w95 =>
 pGd (gB x137 false) (pN Tryd.prog (oBin .neq 3 (.tmp 142) (.tmp 144) x142 x144) w95) w95 fun x145 w96 =>
 pN Tryd.prog (oPick x137 (.bool true) x145) w96 fun x146 w97 =>
 pGd (gB x146 false) (pN Tryd.prog (oMv x64) w97) w97 fun x148 w98 =>
 pGd (gB x146 false) (pN Tryd.prog (oCall 8 [x148]) w98) w98 fun x149 w99 =>
 pGd (gB x146 false) (pN Tryd.prog (oMv x34) w99) w99 fun x150 w100 =>
 pGd (gB x146 false) (pN Tryd.prog (oCall 8 [x150]) w100) w100 fun x151 w101 =>
 pGd (gB x146 false) (pN Tryd.prog (oBin .neq 3 (.tmp 149) (.tmp 151) x149 x151) w101) w101 fun x152 w102 =>
 pN Tryd.prog (oPick x146 (.bool true) x152) w102 fun x153 w103 =>
 pIf x153
 (Q (.bool false) w103)
 (pN Tryd.prog (oBin .add 3 (.tmp 69) (.const (.int .i64 1)) v69l13 (.int .i64 1)) w103 fun x154 w104 =>
 (L13 x154 w104 ∧ m13 x154 w104 < m13 v69l13 w34)))))
 (pN Tryd.prog (oCall 12 [x64]) w35 fun x156 w105 =>
 pN Tryd.prog (oCall 8 [x34]) w105 fun x158 w106 =>
 ∃ (L28 : Value → World → Prop) (m28 : Value → World → Nat),
 L28 (.int .i64 0) w106 ∧
 ∀ (_k28 : Env) (v159l28 : Value) (w107 : World), L28 v159l28 w107 →
 pN Tryd.prog (oBin .lss 3 (.tmp 159) (.const (.int .i64 3)) v159l28 (.int .i64 3)) w107 fun x160 w108 =>
 pIf x160
 (pN Tryd.prog (oBuild 34 [(0, (.int .i64 1)), (1, (bv 153))]) w108 fun x162 w109 =>
 pN Tryd.prog (oCall 9 [x64, x162]) w109 fun _ w110 =>
 pN Tryd.prog (oBin .add 3 (.tmp 159) (.const (.int .i64 1)) v159l28 (.int .i64 1)) w110 fun x164 w111 =>
 (L28 x164 w111 ∧ m28 x164 w111 < m28 v159l28 w107))
 (pN Tryd.prog (oCall 14 [x64]) w108 fun _ w112 =>
 pN Tryd.prog (oCall 11 [x34]) w112 fun x168 w113 =>
 pN Tryd.prog (oCall 11 [x156]) w113 fun x170 w114 =>
 pN Tryd.prog (oConv 38 9 x168) w114 fun x172 w115 =>
 pN Tryd.prog (oCall 11 [x64]) w115 fun x174 w116 =>
 pN Tryd.prog (oBi .len #[38] 3 [false] [x168]) w116 fun x176 w117 =>
 pN Tryd.prog (oBin .neq 3 (.tmp 176) (.tmp 177) x176 x158) w117 fun x178 w118 =>
 pGd (gB x178 false) (pN Tryd.prog (oMv x170) w118) w118 fun x180 w119 =>
 pGd (gB x178 false) (pN Tryd.prog (oConv 38 9 x180) w119) w119 fun x181 w120 =>
 pGd (gB x178 false) (pN Tryd.prog (oMv x172) w120) w120 fun x182 w121 =>
 pGd (gB x178 false) (pN Tryd.prog (oBin .neq 9 (.tmp 181) (.tmp 182) x181 x182) w121) w121 fun x183 w122 =>
 pN Tryd.prog (oPick x178 (.bool true) x183) w122 fun x184 w123 =>
 pGd (gB x184 false) (pN Tryd.prog (oMv x168) w123) w123 fun x186 w124 =>
 pGd (gB x184 false) (pN Tryd.prog (oConv 38 9 x186) w124) w124 fun x187 w125 =>
 pGd (gB x184 false) (pN Tryd.prog (oMv x172) w125) w125 fun x188 w126 =>
 pGd (gB x184 false) (pN Tryd.prog (oBin .neq 9 (.tmp 187) (.tmp 188) x187 x188) w126) w126 fun x189 w127 =>
 pN Tryd.prog (oPick x184 (.bool true) x189) w127 fun x190 w128 =>
 pGd (gB x190 false) (pN Tryd.prog (oMv x34) w128) w128 fun x192 w129 =>
 pGd (gB x190 false) (pN Tryd.prog (oCall 8 [x192]) w129) w129 fun x193 w130 =>
 pGd (gB x190 false) (pN Tryd.prog (oBin .neq 3 (.tmp 193) (.const (.int .i64 5)) x193 (.int .i64 5)) w130) w130 fun x194 w131 =>
 pN Tryd.prog (oPick x190 (.bool true) x194) w131 fun x195 w132 =>
 pGd (gB x195 false) (pN Tryd.prog (oMv x174) w132) w132 fun x197 w133 =>
 pGd (gB x195 false) (pN Tryd.prog (oBi .len #[38] 3 [false] [x197]) w133) w133 fun x198 w134 =>
 pGd (gB x195 false) (pN Tryd.prog (oBin .lss 3 (.tmp 198) (.const (.int .i64 5)) x198 (.int .i64 5)) w134) w134 fun x199 w135 =>
 pN Tryd.prog (oPick x195 (.bool true) x199) w135 fun x200 w136 =>
 pIf x200
 (Q (.bool false) w136)
 (pN Tryd.prog (oConv 38 9 x174) w136 fun x202 w137 =>
 pN Tryd.prog (oBi .len #[38] 3 [false] [x168]) w137 fun x204 w138 =>
 ∃ (L39 : Value → World → Prop) (m39 : Value → World → Nat),
 L39 (.int .i64 0) w138 ∧
 ∀ (_k39 : Env) (v205l39 : Value) (w139 : World), L39 v205l39 w139 →
 pN Tryd.prog (oBin .lss 3 (.tmp 205) (.tmp 204) v205l39 x204) w139 fun x206 w140 =>
 pIf x206
 (pN Tryd.prog (oIdx 38 x168 v205l39) w140 fun x212 w141 =>
 pN Tryd.prog (oStore 5 x212 (bv 161)) w141 fun _ w142 =>
 pN Tryd.prog (oIdx 38 x170 v205l39) w142 fun x213 w143 =>
 pN Tryd.prog (oStore 5 x213 (bv 162)) w143 fun _ w144 =>
 pN Tryd.prog (oBin .add 3 (.tmp 205) (.const (.int .i64 1)) v205l39 (.int .i64 1)) w144 fun x214 w145 =>
 (L39 x214 w145 ∧ m39 x214 w145 < m39 v205l39 w139))
 (pN Tryd.prog (oBs 38 1 [(0, (bv 177))]) w140 fun x216 w146 =>
 pN Tryd.prog (oBi .append #[38, 38] 38 [false, false] [x168, x216]) w146 fun x217 w147 =>
 pN Tryd.prog (oBs 38 1 [(0, (bv 178))]) w147 fun x219 w148 =>
 pN Tryd.prog (oBi .append #[38, 38] 38 [false, false] [x170, x219]) w148 fun x220 w149 =>
 ∃ (L45 : Value → World → Prop) (m45 : Value → World → Nat),
 L45 (.int .i64 0) w149 ∧
 ∀ (_k45 : Env) (i27l45 : Value) (w150 : World), L45 i27l45 w150 →
 pN Tryd.prog (oBi .len #[9] 3 [false] [x172]) w150 fun x223 w151 =>
 pN Tryd.prog (oBin .lss 3 (.tmp 221) (.tmp 223) i27l45 x223) w151 fun x224 w152 =>
 pIf x224
 (pN Tryd.prog (oIdx 38 x217 i27l45) w152 fun x229 w153 =>
 pN Tryd.prog (oLoad 5 x229) w153 fun x230 w154 =>
 pN Tryd.prog (oBin .neq 5 (.tmp 230) (.const (.int .u8 161)) x230 (bv 161)) w154 fun x231 w155 =>
 pGd (gB x231 false) (pN Tryd.prog (oMv x220) w155) w155 fun x233 w156 =>
 pGd (gB x231 false) (pN Tryd.prog (oMv i27l45) w156) w156 fun x234 w157 =>
 pGd (gB x231 false) (pN Tryd.prog (oIdx 38 x233 x234) w157) w157 fun x235 w158 =>
 pGd (gB x231 false) (pN Tryd.prog (oLoad 5 x235) w158) w158 fun x236 w159 =>
 pGd (gB x231 false) (pN Tryd.prog (oBin .neq 5 (.tmp 236) (.const (.int .u8 162)) x236 (bv 162)) w159) w159 fun x237 w160 =>
 pN Tryd.prog (oPick x231 (.bool true) x237) w160 fun x238 w161 =>
 pIf x238
 (Q (.bool false) w161)
 (pN Tryd.prog (oBin .add 3 (.tmp 225) (.const (.int .i64 1)) i27l45 (.int .i64 1)) w161 fun x226 w162 =>
 (L45 x226 w162 ∧ m45 x226 w162 < m45 i27l45 w150)))
 (pN Tryd.prog (oBi .len #[9] 3 [false] [x172]) w152 fun x241 w163 =>
 pN Tryd.prog (oIdx 38 x217 x241) w163 fun x242 w164 =>
 pN Tryd.prog (oLoad 5 x242) w164 fun x243 w165 =>
 pN Tryd.prog (oBin .eql 5 (.tmp 243) (.const (.int .u8 177)) x243 (bv 177)) w165 fun x244 w166 =>
 pGd (gB x244 true) (pN Tryd.prog (oMv x220) w166) w166 fun x246 w167 =>
 pGd (gB x244 true) (pN Tryd.prog (oMv x172) w167) w167 fun x247 w168 =>
 pGd (gB x244 true) (pN Tryd.prog (oBi .len #[9] 3 [false] [x247]) w168) w168 fun x248 w169 =>
 pGd (gB x244 true) (pN Tryd.prog (oIdx 38 x246 x248) w169) w169 fun x249 w170 =>
 pGd (gB x244 true) (pN Tryd.prog (oLoad 5 x249) w170) w170 fun x250 w171 =>
 pGd (gB x244 true) (pN Tryd.prog (oBin .eql 5 (.tmp 250) (.const (.int .u8 178)) x250 (bv 178)) w171) w171 fun x251 w172 =>
 pN Tryd.prog (oPick x244 x251 (.bool false)) w172 fun x252 w173 =>
 pGd (gB x252 true) (pN Tryd.prog (oMv x174) w173) w173 fun x254 w174 =>
 pGd (gB x252 true) (pN Tryd.prog (oConv 38 9 x254) w174) w174 fun x255 w175 =>
 pGd (gB x252 true) (pN Tryd.prog (oMv x202) w175) w175 fun x256 w176 =>
 pGd (gB x252 true) (pN Tryd.prog (oBin .eql 9 (.tmp 255) (.tmp 256) x255 x256) w176) w176 fun x257 w177 =>
 pN Tryd.prog (oPick x252 x257 (.bool false)) w177 fun x258 w178 =>
 pGd (gB x258 true) (pN Tryd.prog (oMv x34) w178) w178 fun x260 w179 =>
 pGd (gB x258 true) (pN Tryd.prog (oCall 11 [x260]) w179) w179 fun x261 w180 =>
 pGd (gB x258 true) (pN Tryd.prog (oConv 38 9 x261) w180) w180 fun x262 w181 =>
 pGd (gB x258 true) (pN Tryd.prog (oBin .eql 9 (.tmp 262) (.const (.string ⟨#[0, 0, 0, 0, 0]⟩)) x262 (.string ⟨#[0, 0, 0, 0, 0]⟩)) w181) w181 fun x263 w182 =>
 pN Tryd.prog (oPick x258 x263 (.bool false)) w182 fun x264 w183 =>
 pGd (gB x264 true) (pN Tryd.prog (oCall 7 []) w183) w183 fun x266 w184 =>
 pN Tryd.prog (oPick x264 x266 (.bool false)) w184 fun x267 w185 =>
 Q x267 w185))))))))
noncomputable def pithlaw14_LzencForks.c : Code := match Tryd.f4.body with | some c => c | none => .skip
theorem pithlaw14_LzencForks.eq [Pan] (x0 : Value) (x1 : Value) (x2 : Value) (w : World) (Q : Value → World → Prop) : cw Tryd.prog pithlaw14_LzencForks.H pithlaw14_LzencForks.c (endQ Tryd.prog Tryd.f4.results.toList Q) (argsE [x0, x1, x2]) w = pithlaw14_LzencForks.F x0 x1 x2 w Q := by kernel_rfl
theorem pithlaw14_LzencForks.calls [Pan] {x0 : Value} {x1 : Value} {x2 : Value} {w : World} {Q : Value → World → Prop} (h : pithlaw14_LzencForks.F x0 x1 x2 w Q) : Calls Tryd.prog 4 #[x0, x1, x2] w (retP Q) :=
  calls_of_cw (H := pithlaw14_LzencForks.H) (c := pithlaw14_LzencForks.c) (args := [x0, x1, x2]) mixed Tryd.func4 (by kernel_rfl) (by kernel_rfl) (Nat.le_of_ble_eq_true (by kernel_rfl)) ((pithlaw14_LzencForks.eq x0 x1 x2 w Q).mpr h)

/-! pithlaw14_num: pith/pithlaw14.num; temporaries: 0:e 1:e -/
def pithlaw14_num.H : Hints := { cut := fun  | _ => none, loop := fun  | _ => ([], 0), order := fun  | _ => [] }
def pithlaw14_num.F [Pan] (x0 : Value) (w : World) (Q : Value → World → Prop) : Prop :=
 Q x0 w
noncomputable def pithlaw14_num.c : Code := match Tryd.f6.body with | some c => c | none => .skip
theorem pithlaw14_num.eq [Pan] (x0 : Value) (w : World) (Q : Value → World → Prop) : cw Tryd.prog pithlaw14_num.H pithlaw14_num.c (endQ Tryd.prog Tryd.f6.results.toList Q) (argsE [x0]) w = pithlaw14_num.F x0 w Q := by kernel_rfl
theorem pithlaw14_num.calls [Pan] {x0 : Value} {w : World} {Q : Value → World → Prop} (h : pithlaw14_num.F x0 w Q) : Calls Tryd.prog 6 #[x0] w (retP Q) :=
  calls_of_cw (H := pithlaw14_num.H) (c := pithlaw14_num.c) (args := [x0]) mixed Tryd.func6 (by kernel_rfl) (by kernel_rfl) (Nat.le_of_ble_eq_true (by kernel_rfl)) ((pithlaw14_num.eq x0 w Q).mpr h)

/-! pithlaw14_known: pith/pithlaw14.known; temporaries: 1:e 2:f 3:n 4:g 5:m 6:h -/
def pithlaw14_known.H : Hints := { cut := fun  | _ => none, loop := fun  | _ => ([], 0), order := fun  | _ => [] }
def pithlaw14_known.F [Pan]  (w : World) (Q : Value → World → Prop) : Prop :=
 pN Tryd.prog (oBuild 23 [(0, (.int .i64 3)), (2, (.int .i64 2))]) w fun x8 w1 =>
 pN Tryd.prog (oCall 5 [x8, (.int .i64 4096)]) w1 fun x9 w2 =>
 pN Tryd.prog (oExt x9 0) w2 fun x10 w3 =>
 pN Tryd.prog (oExt x9 1) w3 fun x11 w4 =>
 pN Tryd.prog (oCall 6 [x11]) w4 fun x13 w5 =>
 pN Tryd.prog (oBin .neq 3 (.tmp 13) (.const (.int .i64 0)) x13 (.int .i64 0)) w5 fun x14 w6 =>
 pGd (gB x14 false) (pN Tryd.prog (oMv x10) w6) w6 fun x16 w7 =>
 pGd (gB x14 false) (pN Tryd.prog (oBin .eql 27 (.tmp 16) (.const (.pointer none)) x16 (.pointer none)) w7) w7 fun x17 w8 =>
 pN Tryd.prog (oPick x14 (.bool true) x17) w8 fun x18 w9 =>
 pGd (gB x18 false) (pN Tryd.prog (oMv x10) w9) w9 fun x20 w10 =>
 pGd (gB x18 false) (pN Tryd.prog (oCall 8 [x20]) w10) w10 fun x21 w11 =>
 pGd (gB x18 false) (pN Tryd.prog (oBin .neq 3 (.tmp 21) (.const (.int .i64 5)) x21 (.int .i64 5)) w11) w11 fun x22 w12 =>
 pN Tryd.prog (oPick x18 (.bool true) x22) w12 fun x23 w13 =>
 pIf x23
 (Q (.bool false) w13)
 (pN Tryd.prog (oBuild 34 [(0, (.int .i64 1)), (1, (bv 255))]) w13 fun x26 w14 =>
 pN Tryd.prog (oCall 13 [x10, x26]) w14 fun x27 w15 =>
 pN Tryd.prog (oExt x27 0) w15 fun x28 w16 =>
 pN Tryd.prog (oExt x27 1) w16 fun x29 w17 =>
 pN Tryd.prog (oBuild 34 [(0, (.int .i64 2)), (2, (.int .i64 2)), (3, (.int .i64 1))]) w17 fun x32 w18 =>
 pN Tryd.prog (oCall 13 [x10, x32]) w18 fun x33 w19 =>
 pN Tryd.prog (oExt x33 0) w19 fun x34 w20 =>
 pN Tryd.prog (oExt x33 1) w20 fun x35 w21 =>
 pN Tryd.prog (oBin .eql 3 (.tmp 36) (.const (.int .i64 152)) x28 (.int .i64 152)) w21 fun x37 w22 =>
 pGd (gB x37 true) (pN Tryd.prog (oMv x29) w22) w22 fun x39 w23 =>
 pGd (gB x37 true) (pN Tryd.prog (oCall 6 [x39]) w23) w23 fun x40 w24 =>
 pGd (gB x37 true) (pN Tryd.prog (oBin .eql 3 (.tmp 40) (.const (.int .i64 0)) x40 (.int .i64 0)) w24) w24 fun x41 w25 =>
 pN Tryd.prog (oPick x37 x41 (.bool false)) w25 fun x42 w26 =>
 pGd (gB x42 true) (pN Tryd.prog (oMv x34) w26) w26 fun x44 w27 =>
 pGd (gB x42 true) (pN Tryd.prog (oBin .eql 3 (.tmp 44) (.const (.int .i64 0)) x44 (.int .i64 0)) w27) w27 fun x45 w28 =>
 pN Tryd.prog (oPick x42 x45 (.bool false)) w28 fun x46 w29 =>
 pGd (gB x46 true) (pN Tryd.prog (oMv x35) w29) w29 fun x48 w30 =>
 pGd (gB x46 true) (pN Tryd.prog (oCall 6 [x48]) w30) w30 fun x49 w31 =>
 pGd (gB x46 true) (pN Tryd.prog (oBin .eql 3 (.tmp 49) (.const (.int .i64 7)) x49 (.int .i64 7)) w31) w31 fun x50 w32 =>
 pN Tryd.prog (oPick x46 x50 (.bool false)) w32 fun x51 w33 =>
 pGd (gB x51 true) (pN Tryd.prog (oMv x10) w33) w33 fun x53 w34 =>
 pGd (gB x51 true) (pN Tryd.prog (oCall 11 [x53]) w34) w34 fun x54 w35 =>
 pGd (gB x51 true) (pN Tryd.prog (oConv 38 9 x54) w35) w35 fun x55 w36 =>
 pGd (gB x51 true) (pN Tryd.prog (oBin .eql 9 (.tmp 55) (.const (.string ⟨#[0, 0, 0, 0, 0]⟩)) x55 (.string ⟨#[0, 0, 0, 0, 0]⟩)) w36) w36 fun x56 w37 =>
 pN Tryd.prog (oPick x51 x56 (.bool false)) w37 fun x57 w38 =>
 Q x57 w38)
noncomputable def pithlaw14_known.c : Code := match Tryd.f7.body with | some c => c | none => .skip
theorem pithlaw14_known.eq [Pan]  (w : World) (Q : Value → World → Prop) : cw Tryd.prog pithlaw14_known.H pithlaw14_known.c (endQ Tryd.prog Tryd.f7.results.toList Q) (argsE []) w = pithlaw14_known.F  w Q := by kernel_rfl
theorem pithlaw14_known.calls [Pan]  {w : World} {Q : Value → World → Prop} (h : pithlaw14_known.F  w Q) : Calls Tryd.prog 7 #[] w (retP Q) :=
  calls_of_cw (H := pithlaw14_known.H) (c := pithlaw14_known.c) (args := []) mixed Tryd.func7 (by kernel_rfl) (by kernel_rfl) (Nat.le_of_ble_eq_true (by kernel_rfl)) ((pithlaw14_known.eq  w Q).mpr h)

end Go.Proofs.YtbgnnjfpiblkmaaDoor
