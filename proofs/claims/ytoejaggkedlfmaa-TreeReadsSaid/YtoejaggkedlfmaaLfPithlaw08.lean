/-
  Printed by a program of mine (lift.py): each function of the seat as a plain proposition over values and worlds; that the program meets it.
-/
import Derived.Test.YtoejaggkedlfmaaRows
import Derived.Test.YtoejaggkedlfmaaFacts
namespace Go.Proofs.Ytoejaggkedlfmaa
open Go
set_option linter.unusedSimpArgs false
set_option linter.unnecessarySimpa false
set_option linter.unusedSectionVars false
set_option linter.unusedVariables false
set_option maxRecDepth 100000

/-! pithlaw08_RcdecExact: pith/pithlaw08.RcdecExact; temporaries: 0:b 1:n 2:asks 3:b 4:n 5:asks 7:l 8:d 9:e 10:r 11:f 12:i 13:s 14:g 15:t 16:_ 17:_ 18:a 19:v 20:e 21:w 22:f 23:v 24:e 25:w 26:f -/
def pithlaw08_RcdecExact.H : Hints := { cut := fun | 31 => some ([], 93536104789177703688286092736600056770038548922432) | 33 => some ([], 383123885216472214568817569353437985390562795362975808) | _ => none, loop := fun | 11 => ([86], 9826149061827705932011802624) | 20 => ([112], 766247770432944429173981216716619764180839064896536640) | _ => ([], 0), order := fun | 6 => [(0, 0), (2, 1), (1, 5), (3, 7), (4, 15), (5, 31), (6, 63), (7, 127), (8, 255), (9, 511), (10, 1023), (11, 2047), (12, 4095), (13, 8191), (14, 16383), (15, 32767), (16, 65535), (17, 131071), (18, 262143), (19, 524287), (20, 1048575), (21, 2097151), (22, 4194303), (23, 8388607), (24, 16777215), (25, 33554431), (26, 67108863), (27, 134217727), (28, 268435455)] | _ => [] }
def pithlaw08_RcdecExact.F [Pan] (x0 : Value) (x1 : Value) (x2 : Value) (w : World) (Q : Value → World → Prop) : Prop :=
 pN Try.prog (oBin .lss 3 (.tmp 27) (.const (.int .i64 0)) x1 (.int .i64 0)) w fun x28 w1 =>
 pGd (gB x28 false) (pN Try.prog (oMv x1) w1) w1 fun x30 w2 =>
 pGd (gB x28 false) (pN Try.prog (oBin .gtr 3 (.tmp 30) (.const (.int .i64 64)) x30 (.int .i64 64)) w2) w2 fun x31 w3 =>
 pN Try.prog (oPick x28 (.bool true) x31) w3 fun x32 w4 =>
 pIf x32
 (pN Try.prog (oCall 41 []) w4 fun x33 w5 =>
 Q x33 w5)
 (pN Try.prog (oBs 29 0 []) w4 fun x34 w6 =>
 pN Try.prog (oBi .append #[29, 29] 29 [false, false] [x34, x0]) w6 fun x36 w7 =>
 pN Try.prog (oBs 29 1 [(0, (bv 153))]) w7 fun x37 w8 =>
 pN Try.prog (oBi .append #[29, 29] 29 [false, false] [x36, x37]) w8 fun x38 w9 =>
 pN Try.prog (oBi .len #[29] 3 [false] [x0]) w9 fun x42 w10 =>
 pN Try.prog (oSl 29 x38 none (some x42) none) w10 fun x43 w11 =>
 pN Try.prog (oCall 42 [x43]) w11 fun x44 w12 =>
 pN Try.prog (oExt x44 0) w12 fun x45 w13 =>
 pN Try.prog (oExt x44 1) w13 fun x46 w14 =>
 pN Try.prog (oCall 43 [x0]) w14 fun x49 w15 =>
 pN Try.prog (oExt x49 0) w15 fun x50 w16 =>
 pN Try.prog (oExt x49 1) w16 fun x51 w17 =>
 pDr w17 fun w18 =>
 pN Try.prog (oCall 44 [x46]) w18 fun x53 w19 =>
 (True) ∧ (pA Try.prog (oBin .neq 3 (.tmp 53) (.tmp 54) x53 x51) fun x55 =>
 gA (gB x55 false) (pA Try.prog (oMv x45)) fun x57 =>
 gA (gB x55 false) (pA Try.prog (oBin .eql 75 (.tmp 57) (.const (.pointer none)) x57 (.pointer none))) fun x58 =>
 gA (gB x55 false) (pA Try.prog (oMv x50)) fun x59 =>
 gA (gB x55 false) (pA Try.prog (oBin .eql 78 (.tmp 59) (.const (.pointer none)) x59 (.pointer none))) fun x60 =>
 gA (gB x55 false) (pA Try.prog (oBin .neq 4 (.tmp 58) (.tmp 60) x58 x60)) fun x61 =>
 pA Try.prog (oPick x55 (.bool true) x61) fun x62 =>
 gA (gB x62 false) (pA Try.prog (oMv x38)) fun x64 =>
 gA (gB x62 false) (pA Try.prog (oMv x0)) fun x65 =>
 gA (gB x62 false) (pA Try.prog (oBi .len #[29] 3 [false] [x65])) fun x66 =>
 gA (gB x62 false) (pA Try.prog (oSl 29 x64 none (some x66) none)) fun x67 =>
 gA (gB x62 false) (pL Try.prog (oConv 29 9 x67) w19) fun x68 =>
 gA (gB x62 false) (pA Try.prog (oMv x0)) fun x69 =>
 gA (gB x62 false) (pL Try.prog (oConv 29 9 x69) w19) fun x70 =>
 gA (gB x62 false) (pA Try.prog (oBin .neq 9 (.tmp 68) (.tmp 70) x68 x70)) fun x71 =>
 pA Try.prog (oPick x62 (.bool true) x71) fun x72 =>
 gA (gB x72 false) (pA Try.prog (oMv x38)) fun x74 =>
 gA (gB x72 false) (pA Try.prog (oMv x0)) fun x75 =>
 gA (gB x72 false) (pA Try.prog (oBi .len #[29] 3 [false] [x75])) fun x76 =>
 gA (gB x72 false) (pA Try.prog (oIdx 29 x74 x76)) fun x77 =>
 gA (gB x72 false) (pL Try.prog (oLoad 5 x77) w19) fun x78 =>
 gA (gB x72 false) (pA Try.prog (oBin .neq 5 (.tmp 78) (.const (.int .u8 153)) x78 (bv 153))) fun x79 =>
 pA Try.prog (oPick x72 (.bool true) x79) fun x80 =>
 pIf x80
 (Q (.bool false) w19)
 (pN Try.prog (oBin .eql 78 (.tmp 81) (.const (.pointer none)) x50 (.pointer none)) w19 fun x82 w20 =>
 pIf x82
 (pN Try.prog (oCall 41 []) w20 fun x83 w21 =>
 Q x83 w21)
 (pN Try.prog (oBi .len #[29] 3 [false] [x38]) w20 fun x85 w22 =>
 ∃ (L11 : Value → World → Prop) (m11 : Value → World → Nat),
 L11 (.int .i64 0) w22 ∧
 ∀ (_k11 : Env) (v86l11 : Value) (w23 : World), L11 v86l11 w23 →
 pN Try.prog (oBin .lss 3 (.tmp 86) (.tmp 85) v86l11 x85) w23 fun x87 w24 =>
 pIf x87
 (pN Try.prog (oIdx 29 x38 v86l11) w24 fun x91 w25 =>
 pN Try.prog (oStore 5 x91 (bv 90)) w25 fun _ w26 =>
 pN Try.prog (oBin .add 3 (.tmp 86) (.const (.int .i64 1)) v86l11 (.int .i64 1)) w26 fun x92 w27 =>
 (L11 x92 w27 ∧ m11 x92 w27 < m11 v86l11 w23))
 (pN Try.prog (oCall 45 [x1]) w24 fun x95 w28 =>
 pN Try.prog (oExt x95 0) w28 fun x96 w29 =>
 pN Try.prog (oExt x95 1) w29 fun x97 w30 =>
 pN Try.prog (oCall 46 [x1]) w30 fun x100 w31 =>
 pN Try.prog (oExt x100 0) w31 fun x101 w32 =>
 pN Try.prog (oExt x100 1) w32 fun _ w33 =>
 pN Try.prog (oCall 44 [x97]) w33 fun x104 w34 =>
 pN Try.prog (oBin .neq 3 (.tmp 104) (.const (.int .i64 0)) x104 (.int .i64 0)) w34 fun x105 w35 =>
 pGd (gB x105 false) (pN Try.prog (oMv x96) w35) w35 fun x107 w36 =>
 pGd (gB x105 false) (pN Try.prog (oBin .eql 34 (.tmp 107) (.const (.pointer none)) x107 (.pointer none)) w36) w36 fun x108 w37 =>
 pN Try.prog (oPick x105 (.bool true) x108) w37 fun x109 w38 =>
 pIf x109
 (Q (.bool false) w38)
 (pN Try.prog (oBi .len #[74] 3 [false] [x2]) w38 fun x111 w39 =>
 ∃ (L20 : Value → World → Prop) (m20 : Value → World → Nat),
 L20 (.int .i64 0) w39 ∧
 ∀ (_k20 : Env) (v112l20 : Value) (w40 : World), L20 v112l20 w40 →
 pN Try.prog (oBin .lss 3 (.tmp 112) (.tmp 111) v112l20 x111) w40 fun x113 w41 =>
 pIf x113
 (∃ I33 : World → Prop,
 (pN Try.prog (oIdx 74 x2 v112l20) w41 fun x114 w42 =>
 pN Try.prog (oLoad 87 x114) w42 fun x115 w43 =>
 pN Try.prog (oAlloc 87) w43 fun x18 w44 =>
 pN Try.prog (oStore 87 x18 x115) w44 fun _ w45 =>
 ∃ I31 : World → Prop,
 (pN Try.prog (oFld 87 x18 0) w45 fun x116 w46 =>
 pN Try.prog (oLoad 4 x116) w46 fun x117 w47 =>
 pIf x117
 (pN Try.prog (oFld 87 x18 2) w47 fun x120 w48 =>
 pN Try.prog (oLoad 3 x120) w48 fun x121 w49 =>
 pN Try.prog (oCall 47 [x45, x121]) w49 fun x122 w50 =>
 pN Try.prog (oExt x122 0) w50 fun x123 w51 =>
 pN Try.prog (oExt x122 1) w51 fun x124 w52 =>
 pN Try.prog (oFld 87 x18 2) w52 fun x127 w53 =>
 pN Try.prog (oLoad 3 x127) w53 fun x128 w54 =>
 pN Try.prog (oCall 48 [x50, x128]) w54 fun x129 w55 =>
 pN Try.prog (oExt x129 0) w55 fun x130 w56 =>
 pN Try.prog (oExt x129 1) w56 fun x131 w57 =>
 pN Try.prog (oBin .neq 26 (.tmp 132) (.tmp 133) x123 x130) w57 fun x134 w58 =>
 pGd (gB x134 false) (pN Try.prog (oMv x124) w58) w58 fun x136 w59 =>
 pGd (gB x134 false) (pN Try.prog (oCall 44 [x136]) w59) w59 fun x137 w60 =>
 pGd (gB x134 false) (pN Try.prog (oMv x131) w60) w60 fun x138 w61 =>
 pGd (gB x134 false) (pN Try.prog (oBin .neq 3 (.tmp 137) (.tmp 138) x137 x138) w61) w61 fun x139 w62 =>
 pN Try.prog (oPick x134 (.bool true) x139) w62 fun x140 w63 =>
 pIf x140
 (Q (.bool false) w63)
 (I31 w63))
 (pN Try.prog (oFld 87 x18 1) w47 fun x144 w64 =>
 pN Try.prog (oLoad 3 x144) w64 fun x145 w65 =>
 pN Try.prog (oCall 49 [x45, x96, x145]) w65 fun x146 w66 =>
 pN Try.prog (oExt x146 0) w66 fun x147 w67 =>
 pN Try.prog (oExt x146 1) w67 fun x148 w68 =>
 pN Try.prog (oFld 87 x18 1) w68 fun x152 w69 =>
 pN Try.prog (oLoad 3 x152) w69 fun x153 w70 =>
 pN Try.prog (oCall 50 [x50, x101, x153]) w70 fun x154 w71 =>
 pN Try.prog (oExt x154 0) w71 fun x155 w72 =>
 pN Try.prog (oExt x154 1) w72 fun x156 w73 =>
 pN Try.prog (oBin .neq 3 (.tmp 157) (.tmp 158) x147 x155) w73 fun x159 w74 =>
 pGd (gB x159 false) (pN Try.prog (oMv x148) w74) w74 fun x161 w75 =>
 pGd (gB x159 false) (pN Try.prog (oCall 44 [x161]) w75) w75 fun x162 w76 =>
 pGd (gB x159 false) (pN Try.prog (oMv x156) w76) w76 fun x163 w77 =>
 pGd (gB x159 false) (pN Try.prog (oBin .neq 3 (.tmp 162) (.tmp 163) x162 x163) w77) w77 fun x164 w78 =>
 pN Try.prog (oPick x159 (.bool true) x164) w78 fun x165 w79 =>
 pIf x165
 (Q (.bool false) w79)
 (I31 w79))) ∧
 ∀ (_j31 : Env) (w80 : World), I31 w80 →
 pN Try.prog (oCall 51 [x45]) w80 fun x167 w81 =>
 pN Try.prog (oCall 52 [x50]) w81 fun x169 w82 =>
 pN Try.prog (oBin .neq 3 (.tmp 167) (.tmp 169) x167 x169) w82 fun x170 w83 =>
 pGd (gB x170 false) (pN Try.prog (oMv x45) w83) w83 fun x172 w84 =>
 pGd (gB x170 false) (pN Try.prog (oCall 53 [x172]) w84) w84 fun x173 w85 =>
 pGd (gB x170 false) (pN Try.prog (oMv x50) w85) w85 fun x174 w86 =>
 pGd (gB x170 false) (pN Try.prog (oCall 54 [x174]) w86) w86 fun x175 w87 =>
 pGd (gB x170 false) (pN Try.prog (oBin .neq 4 (.tmp 173) (.tmp 175) x173 x175) w87) w87 fun x176 w88 =>
 pN Try.prog (oPick x170 (.bool true) x176) w88 fun x177 w89 =>
 pIf x177
 (Q (.bool false) w89)
 (I33 w89)) ∧
 ∀ (_j33 : Env) (w90 : World), I33 w90 →
 pN Try.prog (oBin .add 3 (.tmp 112) (.const (.int .i64 1)) v112l20 (.int .i64 1)) w90 fun x178 w91 =>
 (L20 x178 w91 ∧ m20 x178 w91 < m20 v112l20 w40))
 (pN Try.prog (oCall 55 [x96, x101, x1]) w41 fun x182 w92 =>
 pGd (gB x182 true) (pN Try.prog (oCall 41 []) w92) w92 fun x184 w93 =>
 pN Try.prog (oPick x182 x184 (.bool false)) w93 fun x185 w94 =>
 Q x185 w94)))))))
noncomputable def pithlaw08_RcdecExact.c : Code := match Try.f8.body with | some c => c | none => .skip
theorem pithlaw08_RcdecExact.eq [Pan] (x0 : Value) (x1 : Value) (x2 : Value) (w : World) (Q : Value → World → Prop) : cw Try.prog pithlaw08_RcdecExact.H pithlaw08_RcdecExact.c (endQ Try.prog Try.f8.results.toList Q) (argsE [x0, x1, x2]) w = pithlaw08_RcdecExact.F x0 x1 x2 w Q := by kernel_rfl
theorem pithlaw08_RcdecExact.calls [Pan] {x0 : Value} {x1 : Value} {x2 : Value} {w : World} {Q : Value → World → Prop} (h : pithlaw08_RcdecExact.F x0 x1 x2 w Q) : Calls Try.prog 8 #[x0, x1, x2] w (retP Q) :=
  calls_of_cw (H := pithlaw08_RcdecExact.H) (c := pithlaw08_RcdecExact.c) (args := [x0, x1, x2]) mixed Try.func8 (by kernel_rfl) (by kernel_rfl) (Nat.le_of_ble_eq_true (by kernel_rfl)) ((pithlaw08_RcdecExact.eq x0 x1 x2 w Q).mpr h)

/-! pithlaw08_RcdecBegins: pith/pithlaw08.RcdecBegins; temporaries: 0:b 1:cut 2:o 3:b 4:cut 5:o 7:n 8:asks 9:d 10:e 11:c 12:f 13:s 14:g 15:t 16:h 17:x 18:used 19:y 20:_ 21:i 22:a 23:was 24:_ 25:again 26:now 27:is 28:_ -/
def pithlaw08_RcdecBegins.H : Hints := { cut := fun  | _ => none, loop := fun | 21 => ([144], 182665403921164334152319068371262729095487684672) | _ => ([], 0), order := fun | 1 => [(0, 0), (1, 1), (2, 3), (3, 7), (4, 15), (5, 31)] | 23 => [(0, 0), (1, 1), (2, 3), (3, 7), (4, 15), (5, 31), (6, 63), (7, 127), (8, 255)] | _ => [] }
def pithlaw08_RcdecBegins.F [Pan] (x0 : Value) (x1 : Value) (x2 : Value) (w : World) (Q : Value → World → Prop) : Prop :=
 pN Try.prog (oBox 98 x2) w fun x5 w1 =>
 pDr w1 fun w2 =>
 pA Try.prog (oFld 98 x5 0) fun x29 =>
 pL Try.prog (oLoad 3 x29) w2 fun x30 =>
 pA Try.prog (oFld 98 x5 1) fun x31 =>
 pL Try.prog (oLoad 74 x31) w2 fun x32 =>
 pN Try.prog (oBin .lss 3 (.tmp 33) (.const (.int .i64 0)) x30 (.int .i64 0)) w2 fun x34 w3 =>
 pGd (gB x34 false) (pN Try.prog (oMv x30) w3) w3 fun x36 w4 =>
 pGd (gB x34 false) (pN Try.prog (oBin .gtr 3 (.tmp 36) (.const (.int .i64 64)) x36 (.int .i64 64)) w4) w4 fun x37 w5 =>
 pN Try.prog (oPick x34 (.bool true) x37) w5 fun x38 w6 =>
 pGd (gB x38 false) (pN Try.prog (oMv x1) w6) w6 fun x40 w7 =>
 pGd (gB x38 false) (pN Try.prog (oBin .lss 3 (.tmp 40) (.const (.int .i64 0)) x40 (.int .i64 0)) w7) w7 fun x41 w8 =>
 pN Try.prog (oPick x38 (.bool true) x41) w8 fun x42 w9 =>
 pGd (gB x42 false) (pN Try.prog (oMv x1) w9) w9 fun x44 w10 =>
 pGd (gB x42 false) (pN Try.prog (oMv x0) w10) w10 fun x45 w11 =>
 pGd (gB x42 false) (pN Try.prog (oBi .len #[29] 3 [false] [x45]) w11) w11 fun x46 w12 =>
 pGd (gB x42 false) (pN Try.prog (oBin .gtr 3 (.tmp 44) (.tmp 46) x44 x46) w12) w12 fun x47 w13 =>
 pN Try.prog (oPick x42 (.bool true) x47) w13 fun x48 w14 =>
 pIf x48
 (pN Try.prog (oCall 41 []) w14 fun x49 w15 =>
 Q x49 w15)
 (pN Try.prog (oCall 42 [x0]) w14 fun x52 w16 =>
 pN Try.prog (oExt x52 0) w16 fun x53 w17 =>
 pN Try.prog (oExt x52 1) w17 fun x54 w18 =>
 pN Try.prog (oSl 29 x0 none (some x1) none) w18 fun x58 w19 =>
 pN Try.prog (oCall 42 [x58]) w19 fun x59 w20 =>
 pN Try.prog (oExt x59 0) w20 fun x60 w21 =>
 pN Try.prog (oExt x59 1) w21 fun x61 w22 =>
 pN Try.prog (oCall 44 [x61]) w22 fun x63 w23 =>
 pN Try.prog (oBin .eql 3 (.tmp 63) (.const (.int .i64 1)) x63 (.int .i64 1)) w23 fun x64 w24 =>
 pIf x64
 (pN Try.prog (oBin .lss 3 (.tmp 65) (.const (.int .i64 5)) x1 (.int .i64 5)) w24 fun x66 w25 =>
 pGd (gB x66 true) (pN Try.prog (oMv x60) w25) w25 fun x68 w26 =>
 pGd (gB x66 true) (pN Try.prog (oBin .eql 75 (.tmp 68) (.const (.pointer none)) x68 (.pointer none)) w26) w26 fun x69 w27 =>
 pN Try.prog (oPick x66 x69 (.bool false)) w27 fun x70 w28 =>
 Q x70 w28)
 (pN Try.prog (oCall 44 [x54]) w24 fun x72 w29 =>
 pN Try.prog (oCall 44 [x61]) w29 fun x74 w30 =>
 pN Try.prog (oBin .neq 3 (.tmp 72) (.tmp 74) x72 x74) w30 fun x75 w31 =>
 pGd (gB x75 false) (pN Try.prog (oMv x60) w31) w31 fun x77 w32 =>
 pGd (gB x75 false) (pN Try.prog (oBin .eql 75 (.tmp 77) (.const (.pointer none)) x77 (.pointer none)) w32) w32 fun x78 w33 =>
 pGd (gB x75 false) (pN Try.prog (oMv x61) w33) w33 fun x79 w34 =>
 pGd (gB x75 false) (pN Try.prog (oCall 44 [x79]) w34) w34 fun x80 w35 =>
 pGd (gB x75 false) (pN Try.prog (oBin .neq 3 (.tmp 80) (.const (.int .i64 0)) x80 (.int .i64 0)) w35) w35 fun x81 w36 =>
 pGd (gB x75 false) (pN Try.prog (oBin .neq 4 (.tmp 78) (.tmp 81) x78 x81) w36) w36 fun x82 w37 =>
 pN Try.prog (oPick x75 (.bool true) x82) w37 fun x83 w38 =>
 pIf x83
 (Q (.bool false) w38)
 (pN Try.prog (oBin .eql 75 (.tmp 84) (.const (.pointer none)) x60 (.pointer none)) w38 fun x85 w39 =>
 pGd (gB x85 false) (pN Try.prog (oMv x53) w39) w39 fun x87 w40 =>
 pGd (gB x85 false) (pN Try.prog (oBin .eql 75 (.tmp 87) (.const (.pointer none)) x87 (.pointer none)) w40) w40 fun x88 w41 =>
 pN Try.prog (oPick x85 (.bool true) x88) w41 fun x89 w42 =>
 pIf x89
 (pN Try.prog (oCall 44 [x61]) w42 fun x91 w43 =>
 pN Try.prog (oBin .eql 3 (.tmp 91) (.const (.int .i64 2)) x91 (.int .i64 2)) w43 fun x92 w44 =>
 pGd (gB x92 true) (pN Try.prog (oMv x0) w44) w44 fun x94 w45 =>
 pGd (gB x92 true) (pN Try.prog (oIdx 29 x94 (.int .i64 0)) w45) w45 fun x95 w46 =>
 pGd (gB x92 true) (pN Try.prog (oLoad 5 x95) w46) w46 fun x96 w47 =>
 pGd (gB x92 true) (pN Try.prog (oBin .neq 5 (.tmp 96) (.const (.int .u8 0)) x96 (bv 0)) w47) w47 fun x97 w48 =>
 pGd (gB x92 true) (pN Try.prog (oMv x97) w48) w48 fun x98 w49 =>
 pGd (gB x98 false) (pN Try.prog (oMv x0) w49) w49 fun x99 w50 =>
 pGd (gB x98 false) (pN Try.prog (oIdx 29 x99 (.int .i64 1)) w50) w50 fun x100 w51 =>
 pGd (gB x98 false) (pN Try.prog (oLoad 5 x100) w51) w51 fun x101 w52 =>
 pGd (gB x98 false) (pN Try.prog (oBin .eql 5 (.tmp 101) (.const (.int .u8 255)) x101 (bv 255)) w52) w52 fun x102 w53 =>
 pGd (gB x92 true) (pN Try.prog (oPick x98 (.bool true) x102) w53) w53 fun x103 w54 =>
 pN Try.prog (oPick x92 x103 (.bool false)) w54 fun x104 w55 =>
 Q x104 w55)
 (pN Try.prog (oCall 45 [x30]) w42 fun x107 w56 =>
 pN Try.prog (oExt x107 0) w56 fun x108 w57 =>
 pN Try.prog (oExt x107 1) w57 fun x109 w58 =>
 pN Try.prog (oCall 45 [x30]) w58 fun x112 w59 =>
 pN Try.prog (oExt x112 0) w59 fun x113 w60 =>
 pN Try.prog (oExt x112 1) w60 fun x114 w61 =>
 pN Try.prog (oCall 44 [x109]) w61 fun x116 w62 =>
 pN Try.prog (oBin .neq 3 (.tmp 116) (.const (.int .i64 0)) x116 (.int .i64 0)) w62 fun x117 w63 =>
 pGd (gB x117 false) (pN Try.prog (oMv x114) w63) w63 fun x119 w64 =>
 pGd (gB x117 false) (pN Try.prog (oCall 44 [x119]) w64) w64 fun x120 w65 =>
 pGd (gB x117 false) (pN Try.prog (oBin .neq 3 (.tmp 120) (.const (.int .i64 0)) x120 (.int .i64 0)) w65) w65 fun x121 w66 =>
 pN Try.prog (oPick x117 (.bool true) x121) w66 fun x122 w67 =>
 pIf x122
 (Q (.bool false) w67)
 (pN Try.prog (oCall 56 [x60, x113, x32]) w67 fun x127 w68 =>
 pN Try.prog (oExt x127 0) w68 fun x128 w69 =>
 pN Try.prog (oExt x127 1) w69 fun x129 w70 =>
 pN Try.prog (oCall 56 [x53, x108, x32]) w70 fun x134 w71 =>
 pN Try.prog (oExt x134 0) w71 fun x135 w72 =>
 pN Try.prog (oExt x134 1) w72 fun _ w73 =>
 pN Try.prog (oBi .len #[22] 3 [false] [x128]) w73 fun x138 w74 =>
 pN Try.prog (oBi .len #[22] 3 [false] [x135]) w74 fun x140 w75 =>
 pN Try.prog (oBin .gtr 3 (.tmp 138) (.tmp 140) x138 x140) w75 fun x141 w76 =>
 pIf x141
 (Q (.bool false) w76)
 (pN Try.prog (oBi .len #[22] 3 [false] [x128]) w76 fun x143 w77 =>
 ∃ (L21 : Value → World → Prop) (m21 : Value → World → Nat),
 L21 (.int .i64 0) w77 ∧
 ∀ (_k21 : Env) (v144l21 : Value) (w78 : World), L21 v144l21 w78 →
 pN Try.prog (oBin .lss 3 (.tmp 144) (.tmp 143) v144l21 x143) w78 fun x145 w79 =>
 pIf x145
 (pDr w79 fun w80 =>
 pA Try.prog (oIdx 22 x128 v144l21) fun x149 =>
 pL Try.prog (oLoad 26 x149) w80 fun x150 =>
 pA Try.prog (oIdx 22 x135 v144l21) fun x153 =>
 pL Try.prog (oLoad 26 x153) w80 fun x154 =>
 pA Try.prog (oBin .neq 26 (.tmp 150) (.tmp 154) x150 x154) fun x155 =>
 pIf x155
 (Q (.bool false) w80)
 (pN Try.prog (oBin .add 3 (.tmp 144) (.const (.int .i64 1)) v144l21 (.int .i64 1)) w80 fun x156 w81 =>
 (L21 x156 w81 ∧ m21 x156 w81 < m21 v144l21 w78)))
 (pN Try.prog (oBi .len #[22] 3 [false] [x128]) w79 fun x158 w82 =>
 pN Try.prog (oBi .len #[74] 3 [false] [x32]) w82 fun x160 w83 =>
 pN Try.prog (oBin .eql 3 (.tmp 158) (.tmp 160) x158 x160) w83 fun x161 w84 =>
 pIf x161
 (Q (.bool true) w84)
 (pN Try.prog (oBi .len #[22] 3 [false] [x128]) w84 fun x164 w85 =>
 pN Try.prog (oIdx 74 x32 x164) w85 fun x165 w86 =>
 pN Try.prog (oLoad 87 x165) w86 fun x166 w87 =>
 pN Try.prog (oAlloc 87) w87 fun x22 w88 =>
 pN Try.prog (oStore 87 x22 x166) w88 fun _ w89 =>
 pN Try.prog (oFld 87 x22 1) w89 fun x169 w90 =>
 pN Try.prog (oLoad 3 x169) w90 fun x170 w91 =>
 pN Try.prog (oCall 28 [x113, x170]) w91 fun x171 w92 =>
 pN Try.prog (oExt x171 0) w92 fun x172 w93 =>
 pN Try.prog (oExt x171 1) w93 fun _ w94 =>
 pN Try.prog (oLoad 87 x22) w94 fun x177 w95 =>
 pN Try.prog (oBs 74 1 [(0, x177)]) w95 fun x178 w96 =>
 pN Try.prog (oCall 56 [x60, x113, x178]) w96 fun x179 w97 =>
 pN Try.prog (oExt x179 0) w97 fun x180 w98 =>
 pN Try.prog (oExt x179 1) w98 fun x181 w99 =>
 pN Try.prog (oFld 87 x22 1) w99 fun x184 w100 =>
 pN Try.prog (oLoad 3 x184) w100 fun x185 w101 =>
 pN Try.prog (oCall 28 [x113, x185]) w101 fun x186 w102 =>
 pN Try.prog (oExt x186 0) w102 fun x187 w103 =>
 pN Try.prog (oExt x186 1) w103 fun _ w104 =>
 pN Try.prog (oBi .len #[22] 3 [false] [x180]) w104 fun x190 w105 =>
 pN Try.prog (oBin .eql 3 (.tmp 190) (.const (.int .i64 0)) x190 (.int .i64 0)) w105 fun x191 w106 =>
 pGd (gB x191 true) (pN Try.prog (oMv x181) w106) w106 fun x193 w107 =>
 pGd (gB x191 true) (pN Try.prog (oMv x129) w107) w107 fun x194 w108 =>
 pGd (gB x191 true) (pN Try.prog (oBin .eql 3 (.tmp 193) (.tmp 194) x193 x194) w108) w108 fun x195 w109 =>
 pN Try.prog (oPick x191 x195 (.bool false)) w109 fun x196 w110 =>
 pGd (gB x196 true) (pN Try.prog (oMv x172) w110) w110 fun x198 w111 =>
 pGd (gB x196 true) (pN Try.prog (oMv x187) w111) w111 fun x199 w112 =>
 pGd (gB x196 true) (pN Try.prog (oBin .eql 3 (.tmp 198) (.tmp 199) x198 x199) w112) w112 fun x200 w113 =>
 pN Try.prog (oPick x196 x200 (.bool false)) w113 fun x201 w114 =>
 pGd (gB x201 true) (pN Try.prog (oMv x129) w114) w114 fun x203 w115 =>
 pGd (gB x201 true) (pN Try.prog (oMv x1) w115) w115 fun x204 w116 =>
 pGd (gB x201 true) (pN Try.prog (oBin .leq 3 (.tmp 203) (.tmp 204) x203 x204) w116) w116 fun x205 w117 =>
 pN Try.prog (oPick x201 x205 (.bool false)) w117 fun x206 w118 =>
 Q x206 w118))))))))
noncomputable def pithlaw08_RcdecBegins.c : Code := match Try.f9.body with | some c => c | none => .skip
theorem pithlaw08_RcdecBegins.eq [Pan] (x0 : Value) (x1 : Value) (x2 : Value) (w : World) (Q : Value → World → Prop) : cw Try.prog pithlaw08_RcdecBegins.H pithlaw08_RcdecBegins.c (endQ Try.prog Try.f9.results.toList Q) (argsE [x0, x1, x2]) w = pithlaw08_RcdecBegins.F x0 x1 x2 w Q := by kernel_rfl
theorem pithlaw08_RcdecBegins.calls [Pan] {x0 : Value} {x1 : Value} {x2 : Value} {w : World} {Q : Value → World → Prop} (h : pithlaw08_RcdecBegins.F x0 x1 x2 w Q) : Calls Try.prog 9 #[x0, x1, x2] w (retP Q) :=
  calls_of_cw (H := pithlaw08_RcdecBegins.H) (c := pithlaw08_RcdecBegins.c) (args := [x0, x1, x2]) mixed Try.func9 (by kernel_rfl) (by kernel_rfl) (Nat.le_of_ble_eq_true (by kernel_rfl)) ((pithlaw08_RcdecBegins.eq x0 x1 x2 w Q).mpr h)

/-! pithlaw08_RcdecApart: pith/pithlaw08.RcdecApart; temporaries: 0:b 1:o 2:turns 3:b 4:o 5:turns 7:n 8:asks 9:own 10:one 11:e 12:two 13:f 14:alone 15:g 16:i 17:s 18:_ 19:t 20:_ 21:u 22:_ 23:want 24:_ 25:x 26:y 27:_ 28:first 29:v 30:_ 31:v 32:_ 33:i 34:i 35:done 36:_ 37:first -/
def pithlaw08_RcdecApart.H : Hints := { cut := fun | 30 => some ([25], 23384024803497871783095010977478136273973970731008) | 33 => some ([25, 26], 784637716923334747030329950859971715517196420435777945600) | 52 => some ([35], 835758346681669833634677467697608550882751477098757746914383716417536) | _ => none, loop := fun | 13 => ([95], 5030988319655785437190040911872) | 25 => ([25, 26, 136], 1569275433846670103846661424041669957401689358591768657920) | 35 => ([192], 51415740314552302136578951165493995614294393445604915285065792) | 41 => ([207], 1684790978627249836411419071790907248289198684425581582603236933696) | 48 => ([35, 222], 1718696600030853286910022211797501455444367956936961495670526952079360) | _ => ([], 0), order := fun | 1 => [(0, 0), (1, 1), (2, 3), (3, 7), (4, 15), (5, 31)] | 37 => [(0, 0), (1, 1), (2, 3), (3, 7), (4, 15), (5, 31), (6, 63), (7, 127), (8, 255)] | 43 => [(0, 0), (1, 1), (2, 3), (3, 7), (4, 15), (5, 31), (6, 63), (7, 127), (8, 255)] | _ => [] }
def pithlaw08_RcdecApart.F [Pan] (x0 : Value) (x1 : Value) (x2 : Value) (w : World) (Q : Value → World → Prop) : Prop :=
 pN Try.prog (oBox 98 x1) w fun x4 w1 =>
 pDr w1 fun w2 =>
 pA Try.prog (oFld 98 x4 0) fun x38 =>
 pL Try.prog (oLoad 3 x38) w2 fun x39 =>
 pA Try.prog (oFld 98 x4 1) fun x40 =>
 pL Try.prog (oLoad 74 x40) w2 fun x41 =>
 pN Try.prog (oBin .lss 3 (.tmp 42) (.const (.int .i64 0)) x39 (.int .i64 0)) w2 fun x43 w3 =>
 pGd (gB x43 false) (pN Try.prog (oMv x39) w3) w3 fun x45 w4 =>
 pGd (gB x43 false) (pN Try.prog (oBin .gtr 3 (.tmp 45) (.const (.int .i64 64)) x45 (.int .i64 64)) w4) w4 fun x46 w5 =>
 pN Try.prog (oPick x43 (.bool true) x46) w5 fun x47 w6 =>
 pIf x47
 (pN Try.prog (oCall 41 []) w6 fun x48 w7 =>
 Q x48 w7)
 (pN Try.prog (oBs 29 0 []) w6 fun x49 w8 =>
 pN Try.prog (oBi .append #[29, 29] 29 [false, false] [x49, x0]) w8 fun x51 w9 =>
 pN Try.prog (oCall 42 [x51]) w9 fun x54 w10 =>
 pN Try.prog (oExt x54 0) w10 fun x55 w11 =>
 pN Try.prog (oExt x54 1) w11 fun x56 w12 =>
 pN Try.prog (oCall 42 [x51]) w12 fun x59 w13 =>
 pN Try.prog (oExt x59 0) w13 fun x60 w14 =>
 pN Try.prog (oExt x59 1) w14 fun x61 w15 =>
 pN Try.prog (oBs 29 0 []) w15 fun x63 w16 =>
 pN Try.prog (oBi .append #[29, 29] 29 [false, false] [x63, x0]) w16 fun x65 w17 =>
 pN Try.prog (oCall 42 [x65]) w17 fun x66 w18 =>
 pN Try.prog (oExt x66 0) w18 fun x67 w19 =>
 pN Try.prog (oExt x66 1) w19 fun x68 w20 =>
 pN Try.prog (oCall 44 [x56]) w20 fun x70 w21 =>
 pN Try.prog (oCall 44 [x61]) w21 fun x72 w22 =>
 pN Try.prog (oBin .neq 3 (.tmp 70) (.tmp 72) x70 x72) w22 fun x73 w23 =>
 pGd (gB x73 false) (pN Try.prog (oMv x56) w23) w23 fun x75 w24 =>
 pGd (gB x73 false) (pN Try.prog (oCall 44 [x75]) w24) w24 fun x76 w25 =>
 pGd (gB x73 false) (pN Try.prog (oMv x68) w25) w25 fun x77 w26 =>
 pGd (gB x73 false) (pN Try.prog (oCall 44 [x77]) w26) w26 fun x78 w27 =>
 pGd (gB x73 false) (pN Try.prog (oBin .neq 3 (.tmp 76) (.tmp 78) x76 x78) w27) w27 fun x79 w28 =>
 pN Try.prog (oPick x73 (.bool true) x79) w28 fun x80 w29 =>
 pIf x80
 (Q (.bool false) w29)
 (pN Try.prog (oCall 44 [x56]) w29 fun x82 w30 =>
 pN Try.prog (oBin .neq 3 (.tmp 82) (.const (.int .i64 0)) x82 (.int .i64 0)) w30 fun x83 w31 =>
 pIf x83
 (pN Try.prog (oBin .eql 75 (.tmp 84) (.const (.pointer none)) x55 (.pointer none)) w31 fun x85 w32 =>
 pGd (gB x85 true) (pN Try.prog (oMv x60) w32) w32 fun x87 w33 =>
 pGd (gB x85 true) (pN Try.prog (oBin .eql 75 (.tmp 87) (.const (.pointer none)) x87 (.pointer none)) w33) w33 fun x88 w34 =>
 pN Try.prog (oPick x85 x88 (.bool false)) w34 fun x89 w35 =>
 pGd (gB x89 true) (pN Try.prog (oCall 41 []) w35) w35 fun x91 w36 =>
 pN Try.prog (oPick x89 x91 (.bool false)) w36 fun x92 w37 =>
 Q x92 w37)
 (pN Try.prog (oBi .len #[29] 3 [false] [x51]) w31 fun x94 w38 =>
 ∃ (L13 : Value → World → Prop) (m13 : Value → World → Nat),
 L13 (.int .i64 0) w38 ∧
 ∀ (_k13 : Env) (v95l13 : Value) (w39 : World), L13 v95l13 w39 →
 pN Try.prog (oBin .lss 3 (.tmp 95) (.tmp 94) v95l13 x94) w39 fun x96 w40 =>
 pIf x96
 (pN Try.prog (oIdx 29 x51 v95l13) w40 fun x100 w41 =>
 pN Try.prog (oStore 5 x100 (bv 119)) w41 fun _ w42 =>
 pN Try.prog (oBin .add 3 (.tmp 95) (.const (.int .i64 1)) v95l13 (.int .i64 1)) w42 fun x101 w43 =>
 (L13 x101 w43 ∧ m13 x101 w43 < m13 v95l13 w39))
 (pN Try.prog (oCall 45 [x39]) w40 fun x104 w44 =>
 pN Try.prog (oExt x104 0) w44 fun x105 w45 =>
 pN Try.prog (oExt x104 1) w45 fun _ w46 =>
 pN Try.prog (oCall 45 [x39]) w46 fun x109 w47 =>
 pN Try.prog (oExt x109 0) w47 fun x110 w48 =>
 pN Try.prog (oExt x109 1) w48 fun _ w49 =>
 pN Try.prog (oCall 45 [x39]) w49 fun x114 w50 =>
 pN Try.prog (oExt x114 0) w50 fun x115 w51 =>
 pN Try.prog (oExt x114 1) w51 fun _ w52 =>
 pN Try.prog (oBin .eql 34 (.tmp 117) (.const (.pointer none)) x105 (.pointer none)) w52 fun x118 w53 =>
 pGd (gB x118 false) (pN Try.prog (oMv x110) w53) w53 fun x120 w54 =>
 pGd (gB x118 false) (pN Try.prog (oBin .eql 34 (.tmp 120) (.const (.pointer none)) x120 (.pointer none)) w54) w54 fun x121 w55 =>
 pN Try.prog (oPick x118 (.bool true) x121) w55 fun x122 w56 =>
 pGd (gB x122 false) (pN Try.prog (oMv x115) w56) w56 fun x124 w57 =>
 pGd (gB x122 false) (pN Try.prog (oBin .eql 34 (.tmp 124) (.const (.pointer none)) x124 (.pointer none)) w57) w57 fun x125 w58 =>
 pN Try.prog (oPick x122 (.bool true) x125) w58 fun x126 w59 =>
 pIf x126
 (Q (.bool false) w59)
 (pN Try.prog (oCall 56 [x67, x115, x41]) w59 fun x131 w60 =>
 pN Try.prog (oExt x131 0) w60 fun x132 w61 =>
 pN Try.prog (oExt x131 1) w61 fun _ w62 =>
 pN Try.prog (oBi .len #[102] 3 [false] [x2]) w62 fun x135 w63 =>
 ∃ (L25 : Value → Value → Value → World → Prop) (m25 : Value → Value → Value → World → Nat),
 L25 (.slice none 0 0) (.slice none 0 0) (.int .i64 0) w63 ∧
 ∀ (_k25 : Env) (x25l25 : Value) (y26l25 : Value) (v136l25 : Value) (w64 : World), L25 x25l25 y26l25 v136l25 w64 →
 pN Try.prog (oBin .lss 3 (.tmp 136) (.tmp 135) v136l25 x135) w64 fun x137 w65 =>
 pIf x137
 (∃ I33 : Value → Value → World → Prop,
 (pN Try.prog (oIdx 102 x2 v136l25) w65 fun x138 w66 =>
 pN Try.prog (oLoad 4 x138) w66 fun x139 w67 =>
 ∃ I30 : Value → World → Prop,
 (pGd (gB x139 true) (pN Try.prog (oMv x25l25) w67) w67 fun x142 w68 =>
 pGd (gB x139 true) (pN Try.prog (oBi .len #[22] 3 [false] [x142]) w68) w68 fun x143 w69 =>
 pGd (gB x139 true) (pN Try.prog (oMv x132) w69) w69 fun x144 w70 =>
 pGd (gB x139 true) (pN Try.prog (oBi .len #[22] 3 [false] [x144]) w70) w70 fun x145 w71 =>
 pGd (gB x139 true) (pN Try.prog (oBin .lss 3 (.tmp 143) (.tmp 145) x143 x145) w71) w71 fun x146 w72 =>
 pN Try.prog (oPick x139 x146 (.bool false)) w72 fun x147 w73 =>
 pIf x147
 (pN Try.prog (oBi .len #[22] 3 [false] [x25l25]) w73 fun x153 w74 =>
 pN Try.prog (oBi .len #[22] 3 [false] [x25l25]) w74 fun x155 w75 =>
 pN Try.prog (oBin .add 3 (.tmp 155) (.const (.int .i64 1)) x155 (.int .i64 1)) w75 fun x156 w76 =>
 pN Try.prog (oSl 74 x41 (some x153) (some x156) none) w76 fun x157 w77 =>
 pN Try.prog (oCall 56 [x55, x105, x157]) w77 fun x158 w78 =>
 pN Try.prog (oExt x158 0) w78 fun x159 w79 =>
 pN Try.prog (oExt x158 1) w79 fun _ w80 =>
 pN Try.prog (oBi .append #[22, 22] 22 [false, false] [x25l25, x159]) w80 fun x163 w81 =>
 I30 x163 w81)
 (I30 x25l25 w73)) ∧
 ∀ (_j30 : Env) (x25c30 : Value) (w82 : World), I30 x25c30 w82 →
 pN Try.prog (oUn .not x139) w82 fun x165 w83 =>
 pGd (gB x165 true) (pN Try.prog (oMv y26l25) w83) w83 fun x167 w84 =>
 pGd (gB x165 true) (pN Try.prog (oBi .len #[22] 3 [false] [x167]) w84) w84 fun x168 w85 =>
 pGd (gB x165 true) (pN Try.prog (oMv x132) w85) w85 fun x169 w86 =>
 pGd (gB x165 true) (pN Try.prog (oBi .len #[22] 3 [false] [x169]) w86) w86 fun x170 w87 =>
 pGd (gB x165 true) (pN Try.prog (oBin .lss 3 (.tmp 168) (.tmp 170) x168 x170) w87) w87 fun x171 w88 =>
 pN Try.prog (oPick x165 x171 (.bool false)) w88 fun x172 w89 =>
 pIf x172
 (pN Try.prog (oBi .len #[22] 3 [false] [y26l25]) w89 fun x178 w90 =>
 pN Try.prog (oBi .len #[22] 3 [false] [y26l25]) w90 fun x180 w91 =>
 pN Try.prog (oBin .add 3 (.tmp 180) (.const (.int .i64 1)) x180 (.int .i64 1)) w91 fun x181 w92 =>
 pN Try.prog (oSl 74 x41 (some x178) (some x181) none) w92 fun x182 w93 =>
 pN Try.prog (oCall 56 [x60, x110, x182]) w93 fun x183 w94 =>
 pN Try.prog (oExt x183 0) w94 fun x184 w95 =>
 pN Try.prog (oExt x183 1) w95 fun _ w96 =>
 pN Try.prog (oBi .append #[22, 22] 22 [false, false] [y26l25, x184]) w96 fun x188 w97 =>
 I33 x25c30 x188 w97)
 (I33 x25c30 y26l25 w89)) ∧
 ∀ (_j33 : Env) (x25c33 : Value) (y26c33 : Value) (w98 : World), I33 x25c33 y26c33 w98 →
 pN Try.prog (oBin .add 3 (.tmp 136) (.const (.int .i64 1)) v136l25 (.int .i64 1)) w98 fun x189 w99 =>
 (L25 x25c33 y26c33 x189 w99 ∧ m25 x25c33 y26c33 x189 w99 < m25 x25l25 y26l25 v136l25 w64))
 (pN Try.prog (oBi .len #[22] 3 [false] [x25l25]) w65 fun x191 w100 =>
 ∃ (L35 : Value → World → Prop) (m35 : Value → World → Nat),
 L35 (.int .i64 0) w100 ∧
 ∀ (_k35 : Env) (v192l35 : Value) (w101 : World), L35 v192l35 w101 →
 pN Try.prog (oBin .lss 3 (.tmp 192) (.tmp 191) v192l35 x191) w101 fun x193 w102 =>
 pIf x193
 (pDr w102 fun w103 =>
 pA Try.prog (oIdx 22 x25l25 v192l35) fun x197 =>
 pL Try.prog (oLoad 26 x197) w103 fun x198 =>
 pA Try.prog (oIdx 22 x132 v192l35) fun x201 =>
 pL Try.prog (oLoad 26 x201) w103 fun x202 =>
 pA Try.prog (oBin .neq 26 (.tmp 198) (.tmp 202) x198 x202) fun x203 =>
 pIf x203
 (Q (.bool false) w103)
 (pN Try.prog (oBin .add 3 (.tmp 192) (.const (.int .i64 1)) v192l35 (.int .i64 1)) w103 fun x204 w104 =>
 (L35 x204 w104 ∧ m35 x204 w104 < m35 v192l35 w101)))
 (pN Try.prog (oBi .len #[22] 3 [false] [y26l25]) w102 fun x206 w105 =>
 ∃ (L41 : Value → World → Prop) (m41 : Value → World → Nat),
 L41 (.int .i64 0) w105 ∧
 ∀ (_k41 : Env) (v207l41 : Value) (w106 : World), L41 v207l41 w106 →
 pN Try.prog (oBin .lss 3 (.tmp 207) (.tmp 206) v207l41 x206) w106 fun x208 w107 =>
 pIf x208
 (pDr w107 fun w108 =>
 pA Try.prog (oIdx 22 y26l25 v207l41) fun x212 =>
 pL Try.prog (oLoad 26 x212) w108 fun x213 =>
 pA Try.prog (oIdx 22 x132 v207l41) fun x216 =>
 pL Try.prog (oLoad 26 x216) w108 fun x217 =>
 pA Try.prog (oBin .neq 26 (.tmp 213) (.tmp 217) x213 x217) fun x218 =>
 pIf x218
 (Q (.bool false) w108)
 (pN Try.prog (oBin .add 3 (.tmp 207) (.const (.int .i64 1)) v207l41 (.int .i64 1)) w108 fun x219 w109 =>
 (L41 x219 w109 ∧ m41 x219 w109 < m41 v207l41 w106)))
 (pN Try.prog (oBi .len #[102] 3 [false] [x2]) w107 fun x221 w110 =>
 ∃ (L48 : Value → Value → World → Prop) (m48 : Value → Value → World → Nat),
 L48 (.int .i64 0) (.int .i64 0) w110 ∧
 ∀ (_k48 : Env) (done35l48 : Value) (v222l48 : Value) (w111 : World), L48 done35l48 v222l48 w111 →
 pN Try.prog (oBin .lss 3 (.tmp 222) (.tmp 221) v222l48 x221) w111 fun x223 w112 =>
 pIf x223
 (∃ I52 : Value → World → Prop,
 (pN Try.prog (oIdx 102 x2 v222l48) w112 fun x224 w113 =>
 pN Try.prog (oLoad 4 x224) w113 fun x225 w114 =>
 pIf x225
 (pN Try.prog (oBin .add 3 (.tmp 227) (.const (.int .i64 1)) done35l48 (.int .i64 1)) w114 fun x228 w115 =>
 I52 x228 w115)
 (I52 done35l48 w114)) ∧
 ∀ (_j52 : Env) (done35c52 : Value) (w116 : World), I52 done35c52 w116 →
 pN Try.prog (oBin .add 3 (.tmp 222) (.const (.int .i64 1)) v222l48 (.int .i64 1)) w116 fun x229 w117 =>
 (L48 done35c52 x229 w117 ∧ m48 done35c52 x229 w117 < m48 done35l48 v222l48 w111))
 (pN Try.prog (oBi .len #[22] 3 [false] [x25l25]) w112 fun x231 w118 =>
 pN Try.prog (oBi .len #[22] 3 [false] [x132]) w118 fun x234 w119 =>
 pN Try.prog (oBi .min #[3, 3] 3 [false, false] [done35l48, x234]) w119 fun x235 w120 =>
 pN Try.prog (oBin .eql 3 (.tmp 231) (.tmp 235) x231 x235) w120 fun x236 w121 =>
 pGd (gB x236 true) (pN Try.prog (oMv y26l25) w121) w121 fun x238 w122 =>
 pGd (gB x236 true) (pN Try.prog (oBi .len #[22] 3 [false] [x238]) w122) w122 fun x239 w123 =>
 pGd (gB x236 true) (pN Try.prog (oMv x2) w123) w123 fun x240 w124 =>
 pGd (gB x236 true) (pN Try.prog (oBi .len #[102] 3 [false] [x240]) w124) w124 fun x241 w125 =>
 pGd (gB x236 true) (pN Try.prog (oMv done35l48) w125) w125 fun x242 w126 =>
 pGd (gB x236 true) (pN Try.prog (oBin .sub 3 (.tmp 241) (.tmp 242) x241 x242) w126) w126 fun x243 w127 =>
 pGd (gB x236 true) (pN Try.prog (oMv x132) w127) w127 fun x244 w128 =>
 pGd (gB x236 true) (pN Try.prog (oBi .len #[22] 3 [false] [x244]) w128) w128 fun x245 w129 =>
 pGd (gB x236 true) (pN Try.prog (oBi .min #[3, 3] 3 [false, false] [x243, x245]) w129) w129 fun x246 w130 =>
 pGd (gB x236 true) (pN Try.prog (oBin .eql 3 (.tmp 239) (.tmp 246) x239 x246) w130) w130 fun x247 w131 =>
 pN Try.prog (oPick x236 x247 (.bool false)) w131 fun x248 w132 =>
 Q x248 w132)))))))))
noncomputable def pithlaw08_RcdecApart.c : Code := match Try.f10.body with | some c => c | none => .skip
theorem pithlaw08_RcdecApart.eq [Pan] (x0 : Value) (x1 : Value) (x2 : Value) (w : World) (Q : Value → World → Prop) : cw Try.prog pithlaw08_RcdecApart.H pithlaw08_RcdecApart.c (endQ Try.prog Try.f10.results.toList Q) (argsE [x0, x1, x2]) w = pithlaw08_RcdecApart.F x0 x1 x2 w Q := by kernel_rfl
theorem pithlaw08_RcdecApart.calls [Pan] {x0 : Value} {x1 : Value} {x2 : Value} {w : World} {Q : Value → World → Prop} (h : pithlaw08_RcdecApart.F x0 x1 x2 w Q) : Calls Try.prog 10 #[x0, x1, x2] w (retP Q) :=
  calls_of_cw (H := pithlaw08_RcdecApart.H) (c := pithlaw08_RcdecApart.c) (args := [x0, x1, x2]) mixed Try.func10 (by kernel_rfl) (by kernel_rfl) (Nat.le_of_ble_eq_true (by kernel_rfl)) ((pithlaw08_RcdecApart.eq x0 x1 x2 w Q).mpr h)

/-! pithlaw08_RcdecBack: pith/pithlaw08.RcdecBack; temporaries: 0:n 1:asks 2:tail 3:n 4:asks 5:tail 7:b 8:l 9:s 10:_ 11:more 12:d 13:e 14:t 15:f 16:_ 17:a 18:v 19:bits 20:g 21:bit 22:h 23:i 24:p 25:g 26:q 27:h -/
def pithlaw08_RcdecBack.H : Hints := { cut := fun | 23 => some ([18, 19, 20], 20769182482379153372600885728509952) | 25 => some ([], 42535295863879367893636445654080159808) | _ => none, loop := fun | 7 => ([52], 3064991081731777716716694054300618367232974645008201792) | 14 => ([88], 85070591729925130856022306789225529408) | 29 => ([23], 1532495539438641165652387146092023214169243986060902464) | _ => ([], 0), order := fun  | _ => [] }
def pithlaw08_RcdecBack.F [Pan] (x0 : Value) (x1 : Value) (x2 : Value) (w : World) (Q : Value → World → Prop) : Prop :=
 pN Try.prog (oBin .lss 3 (.tmp 28) (.const (.int .i64 0)) x0 (.int .i64 0)) w fun x29 w1 =>
 pGd (gB x29 false) (pN Try.prog (oMv x0) w1) w1 fun x31 w2 =>
 pGd (gB x29 false) (pN Try.prog (oBin .gtr 3 (.tmp 31) (.const (.int .i64 64)) x31 (.int .i64 64)) w2) w2 fun x32 w3 =>
 pN Try.prog (oPick x29 (.bool true) x32) w3 fun x33 w4 =>
 pIf x33
 (pN Try.prog (oCall 41 []) w4 fun x34 w5 =>
 Q x34 w5)
 (pN Try.prog (oCall 69 [x0, x1]) w4 fun x38 w6 =>
 pN Try.prog (oExt x38 0) w6 fun x39 w7 =>
 pN Try.prog (oExt x38 1) w7 fun x40 w8 =>
 pN Try.prog (oExt x38 2) w8 fun x41 w9 =>
 pN Try.prog (oBin .eql 34 (.tmp 42) (.const (.pointer none)) x41 (.pointer none)) w9 fun x43 w10 =>
 pGd (gB x43 false) (pN Try.prog (oMv x39) w10) w10 fun x45 w11 =>
 pGd (gB x43 false) (pN Try.prog (oBi .len #[29] 3 [false] [x45]) w11) w11 fun x46 w12 =>
 pGd (gB x43 false) (pN Try.prog (oBin .lss 3 (.tmp 46) (.const (.int .i64 5)) x46 (.int .i64 5)) w12) w12 fun x47 w13 =>
 pN Try.prog (oPick x43 (.bool true) x47) w13 fun x48 w14 =>
 pIf x48
 (Q (.bool false) w14)
 (pN Try.prog (oBs 120 2 [(0, (.slice none 0 0)), (1, x2)]) w14 fun x50 w15 =>
 pN Try.prog (oBi .len #[120] 3 [false] [x50]) w15 fun x51 w16 =>
 ∃ (L7 : Value → World → Prop) (m7 : Value → World → Nat),
 L7 (.int .i64 0) w16 ∧
 ∀ (_k7 : Env) (v52l7 : Value) (w17 : World), L7 v52l7 w17 →
 pN Try.prog (oBin .lss 3 (.tmp 52) (.tmp 51) v52l7 x51) w17 fun x53 w18 =>
 pIf x53
 (pN Try.prog (oIdx 120 x50 v52l7) w18 fun x54 w19 =>
 pN Try.prog (oLoad 29 x54) w19 fun x55 w20 =>
 pN Try.prog (oBs 29 0 []) w20 fun x57 w21 =>
 pN Try.prog (oBi .append #[29, 29] 29 [false, false] [x57, x39]) w21 fun x59 w22 =>
 pN Try.prog (oBi .append #[29, 29] 29 [false, false] [x59, x55]) w22 fun x61 w23 =>
 pN Try.prog (oCall 42 [x61]) w23 fun x62 w24 =>
 pN Try.prog (oExt x62 0) w24 fun x63 w25 =>
 pN Try.prog (oExt x62 1) w25 fun x64 w26 =>
 pN Try.prog (oCall 45 [x0]) w26 fun x67 w27 =>
 pN Try.prog (oExt x67 0) w27 fun x68 w28 =>
 pN Try.prog (oExt x67 1) w28 fun x69 w29 =>
 pN Try.prog (oCall 44 [x64]) w29 fun x71 w30 =>
 pN Try.prog (oBin .neq 3 (.tmp 71) (.const (.int .i64 0)) x71 (.int .i64 0)) w30 fun x72 w31 =>
 pGd (gB x72 false) (pN Try.prog (oMv x69) w31) w31 fun x74 w32 =>
 pGd (gB x72 false) (pN Try.prog (oCall 44 [x74]) w32) w32 fun x75 w33 =>
 pGd (gB x72 false) (pN Try.prog (oBin .neq 3 (.tmp 75) (.const (.int .i64 0)) x75 (.int .i64 0)) w33) w33 fun x76 w34 =>
 pN Try.prog (oPick x72 (.bool true) x76) w34 fun x77 w35 =>
 pGd (gB x77 false) (pN Try.prog (oMv x63) w35) w35 fun x79 w36 =>
 pGd (gB x77 false) (pN Try.prog (oBin .eql 75 (.tmp 79) (.const (.pointer none)) x79 (.pointer none)) w36) w36 fun x80 w37 =>
 pN Try.prog (oPick x77 (.bool true) x80) w37 fun x81 w38 =>
 pGd (gB x81 false) (pN Try.prog (oMv x68) w38) w38 fun x83 w39 =>
 pGd (gB x81 false) (pN Try.prog (oBin .eql 34 (.tmp 83) (.const (.pointer none)) x83 (.pointer none)) w39) w39 fun x84 w40 =>
 pN Try.prog (oPick x81 (.bool true) x84) w40 fun x85 w41 =>
 pIf x85
 (Q (.bool false) w41)
 (pN Try.prog (oBi .len #[74] 3 [false] [x40]) w41 fun x87 w42 =>
 ∃ (L14 : Value → World → Prop) (m14 : Value → World → Nat),
 L14 (.int .i64 0) w42 ∧
 ∀ (_k14 : Env) (v88l14 : Value) (w43 : World), L14 v88l14 w43 →
 pN Try.prog (oBin .lss 3 (.tmp 88) (.tmp 87) v88l14 x87) w43 fun x89 w44 =>
 pIf x89
 (∃ I25 : World → Prop,
 (pN Try.prog (oIdx 74 x40 v88l14) w44 fun x90 w45 =>
 pN Try.prog (oLoad 87 x90) w45 fun x91 w46 =>
 pN Try.prog (oAlloc 87) w46 fun x17 w47 =>
 pN Try.prog (oStore 87 x17 x91) w47 fun _ w48 =>
 ∃ I23 : Value → Value → Value → World → Prop,
 (pN Try.prog (oFld 87 x17 0) w48 fun x92 w49 =>
 pN Try.prog (oLoad 4 x92) w49 fun x93 w50 =>
 pIf x93
 (pN Try.prog (oFld 87 x17 2) w50 fun x94 w51 =>
 pN Try.prog (oLoad 3 x94) w51 fun x95 w52 =>
 pN Try.prog (oFld 87 x17 2) w52 fun x98 w53 =>
 pN Try.prog (oLoad 3 x98) w53 fun x99 w54 =>
 pN Try.prog (oCall 47 [x63, x99]) w54 fun x100 w55 =>
 pN Try.prog (oExt x100 0) w55 fun x101 w56 =>
 pN Try.prog (oExt x100 1) w56 fun x102 w57 =>
 I23 x101 x95 x102 w57)
 (pN Try.prog (oFld 87 x17 1) w50 fun x106 w58 =>
 pN Try.prog (oLoad 3 x106) w58 fun x107 w59 =>
 pN Try.prog (oCall 49 [x63, x68, x107]) w59 fun x108 w60 =>
 pN Try.prog (oExt x108 0) w60 fun x109 w61 =>
 pN Try.prog (oExt x108 1) w61 fun x110 w62 =>
 pN Try.prog (oConv 3 26 x109) w62 fun x112 w63 =>
 I23 x112 (.int .i64 1) x110 w63)) ∧
 ∀ (_j23 : Env) (v18c23 : Value) (bits19c23 : Value) (g20c23 : Value) (w64 : World), I23 v18c23 bits19c23 g20c23 w64 →
 pN Try.prog (oCall 44 [g20c23]) w64 fun x115 w65 =>
 pN Try.prog (oBin .neq 3 (.tmp 115) (.const (.int .i64 0)) x115 (.int .i64 0)) w65 fun x116 w66 =>
 pGd (gB x116 false) (pN Try.prog (oMv v18c23) w66) w66 fun x118 w67 =>
 pGd (gB x116 false) (pN Try.prog (oFld 87 x17 3) w67) w67 fun x119 w68 =>
 pGd (gB x116 false) (pN Try.prog (oLoad 26 x119) w68) w68 fun x120 w69 =>
 pGd (gB x116 false) (pN Try.prog (oMv bits19c23) w69) w69 fun x121 w70 =>
 pGd (gB x116 false) (pN Try.prog (oCall 70 [x120, x121]) w70) w70 fun x122 w71 =>
 pGd (gB x116 false) (pN Try.prog (oBin .neq 26 (.tmp 118) (.tmp 122) x118 x122) w71) w71 fun x123 w72 =>
 pN Try.prog (oPick x116 (.bool true) x123) w72 fun x124 w73 =>
 pIf x124
 (Q (.bool false) w73)
 (I25 w73)) ∧
 ∀ (_j25 : Env) (w74 : World), I25 w74 →
 pN Try.prog (oBin .add 3 (.tmp 88) (.const (.int .i64 1)) v88l14 (.int .i64 1)) w74 fun x125 w75 =>
 (L14 x125 w75 ∧ m14 x125 w75 < m14 v88l14 w43))
 (pN Try.prog (oCall 51 [x63]) w44 fun x127 w76 =>
 pN Try.prog (oBi .len #[29] 3 [false] [x39]) w76 fun x129 w77 =>
 pN Try.prog (oBin .neq 3 (.tmp 127) (.tmp 129) x127 x129) w77 fun x130 w78 =>
 pGd (gB x130 false) (pN Try.prog (oMv x55) w78) w78 fun x132 w79 =>
 pGd (gB x130 false) (pN Try.prog (oBi .len #[29] 3 [false] [x132]) w79) w79 fun x133 w80 =>
 pGd (gB x130 false) (pN Try.prog (oBin .eql 3 (.tmp 133) (.const (.int .i64 0)) x133 (.int .i64 0)) w80) w80 fun x134 w81 =>
 pGd (gB x130 false) (pN Try.prog (oMv x134) w81) w81 fun x135 w82 =>
 pGd (gB x135 true) (pN Try.prog (oMv x63) w82) w82 fun x136 w83 =>
 pGd (gB x135 true) (pN Try.prog (oCall 53 [x136]) w83) w83 fun x137 w84 =>
 pGd (gB x135 true) (pN Try.prog (oUn .not x137) w84) w84 fun x138 w85 =>
 pGd (gB x130 false) (pN Try.prog (oPick x135 x138 (.bool false)) w85) w85 fun x139 w86 =>
 pN Try.prog (oPick x130 (.bool true) x139) w86 fun x140 w87 =>
 pGd (gB x140 false) (pN Try.prog (oMv x55) w87) w87 fun x142 w88 =>
 pGd (gB x140 false) (pN Try.prog (oBi .len #[29] 3 [false] [x142]) w88) w88 fun x143 w89 =>
 pGd (gB x140 false) (pN Try.prog (oBin .gtr 3 (.tmp 143) (.const (.int .i64 0)) x143 (.int .i64 0)) w89) w89 fun x144 w90 =>
 pGd (gB x140 false) (pN Try.prog (oMv x144) w90) w90 fun x145 w91 =>
 pGd (gB x145 true) (pN Try.prog (oMv x63) w91) w91 fun x146 w92 =>
 pGd (gB x145 true) (pN Try.prog (oCall 53 [x146]) w92) w92 fun x147 w93 =>
 pGd (gB x140 false) (pN Try.prog (oPick x145 x147 (.bool false)) w93) w93 fun x148 w94 =>
 pN Try.prog (oPick x140 (.bool true) x148) w94 fun x149 w95 =>
 pIf x149
 (Q (.bool false) w95)
 (∃ (L29 : Value → World → Prop) (m29 : Value → World → Nat),
 L29 (.int .i64 0) w95 ∧
 ∀ (_k29 : Env) (i23l29 : Value) (w96 : World), L29 i23l29 w96 →
 pN Try.prog (oBin .lss 3 (.tmp 150) (.tmp 151) i23l29 x0) w96 fun x152 w97 =>
 pIf x152
 (pN Try.prog (oCall 28 [x41, i23l29]) w97 fun x158 w98 =>
 pN Try.prog (oExt x158 0) w98 fun x159 w99 =>
 pN Try.prog (oExt x158 1) w99 fun x160 w100 =>
 pN Try.prog (oCall 28 [x68, i23l29]) w100 fun x164 w101 =>
 pN Try.prog (oExt x164 0) w101 fun x165 w102 =>
 pN Try.prog (oExt x164 1) w102 fun x166 w103 =>
 pN Try.prog (oBin .neq 3 (.tmp 167) (.tmp 168) x159 x165) w103 fun x169 w104 =>
 pGd (gB x169 false) (pN Try.prog (oMv x160) w104) w104 fun x171 w105 =>
 pGd (gB x169 false) (pN Try.prog (oCall 44 [x171]) w105) w105 fun x172 w106 =>
 pGd (gB x169 false) (pN Try.prog (oBin .neq 3 (.tmp 172) (.const (.int .i64 0)) x172 (.int .i64 0)) w106) w106 fun x173 w107 =>
 pN Try.prog (oPick x169 (.bool true) x173) w107 fun x174 w108 =>
 pGd (gB x174 false) (pN Try.prog (oMv x166) w108) w108 fun x176 w109 =>
 pGd (gB x174 false) (pN Try.prog (oCall 44 [x176]) w109) w109 fun x177 w110 =>
 pGd (gB x174 false) (pN Try.prog (oBin .neq 3 (.tmp 177) (.const (.int .i64 0)) x177 (.int .i64 0)) w110) w110 fun x178 w111 =>
 pN Try.prog (oPick x174 (.bool true) x178) w111 fun x179 w112 =>
 pIf x179
 (Q (.bool false) w112)
 (pN Try.prog (oBin .add 3 (.tmp 153) (.const (.int .i64 1)) i23l29 (.int .i64 1)) w112 fun x154 w113 =>
 (L29 x154 w113 ∧ m29 x154 w113 < m29 i23l29 w96)))
 (pN Try.prog (oBin .add 3 (.tmp 52) (.const (.int .i64 1)) v52l7 (.int .i64 1)) w97 fun x180 w114 =>
 (L7 x180 w114 ∧ m7 x180 w114 < m7 v52l7 w17))))))
 (pN Try.prog (oCall 41 []) w18 fun x181 w115 =>
 Q x181 w115)))
noncomputable def pithlaw08_RcdecBack.c : Code := match Try.f14.body with | some c => c | none => .skip
theorem pithlaw08_RcdecBack.eq [Pan] (x0 : Value) (x1 : Value) (x2 : Value) (w : World) (Q : Value → World → Prop) : cw Try.prog pithlaw08_RcdecBack.H pithlaw08_RcdecBack.c (endQ Try.prog Try.f14.results.toList Q) (argsE [x0, x1, x2]) w = pithlaw08_RcdecBack.F x0 x1 x2 w Q := by kernel_rfl
theorem pithlaw08_RcdecBack.calls [Pan] {x0 : Value} {x1 : Value} {x2 : Value} {w : World} {Q : Value → World → Prop} (h : pithlaw08_RcdecBack.F x0 x1 x2 w Q) : Calls Try.prog 14 #[x0, x1, x2] w (retP Q) :=
  calls_of_cw (H := pithlaw08_RcdecBack.H) (c := pithlaw08_RcdecBack.c) (args := [x0, x1, x2]) mixed Try.func14 (by kernel_rfl) (by kernel_rfl) (Nat.le_of_ble_eq_true (by kernel_rfl)) ((pithlaw08_RcdecBack.eq x0 x1 x2 w Q).mpr h)

/-! pithlaw08_RcdecAgain: pith/pithlaw08.RcdecAgain; temporaries: 0:b 1:n 2:asks 3:b 4:n 5:asks 7:d 8:e 9:s 10:f 11:x 12:_ 13:l 14:i 15:v 16:a 17:c 18:m 19:_ 20:g 21:h 22:t 23:k 24:y 25:used 26:i -/
def pithlaw08_RcdecAgain.H : Hints := { cut := fun  | _ => none, loop := fun | 12 => ([13, 87], 10141050059320924539439263375360) | 29 => ([162], 47884639645509703212025529859116296856006973905174592) | _ => ([], 0), order := fun | 31 => [(0, 0), (1, 1), (2, 3), (3, 7), (4, 15), (5, 31), (6, 63), (7, 127), (8, 255)] | _ => [] }
def pithlaw08_RcdecAgain.F [Pan] (x0 : Value) (x1 : Value) (x2 : Value) (w : World) (Q : Value → World → Prop) : Prop :=
 pN Try.prog (oBin .lss 3 (.tmp 27) (.const (.int .i64 0)) x1 (.int .i64 0)) w fun x28 w1 =>
 pGd (gB x28 false) (pN Try.prog (oMv x1) w1) w1 fun x30 w2 =>
 pGd (gB x28 false) (pN Try.prog (oBin .gtr 3 (.tmp 30) (.const (.int .i64 64)) x30 (.int .i64 64)) w2) w2 fun x31 w3 =>
 pN Try.prog (oPick x28 (.bool true) x31) w3 fun x32 w4 =>
 pIf x32
 (pN Try.prog (oCall 41 []) w4 fun x33 w5 =>
 Q x33 w5)
 (pN Try.prog (oCall 42 [x0]) w4 fun x36 w6 =>
 pN Try.prog (oExt x36 0) w6 fun x37 w7 =>
 pN Try.prog (oExt x36 1) w7 fun x38 w8 =>
 pN Try.prog (oCall 45 [x1]) w8 fun x41 w9 =>
 pN Try.prog (oExt x41 0) w9 fun x42 w10 =>
 pN Try.prog (oExt x41 1) w10 fun x43 w11 =>
 pN Try.prog (oCall 44 [x43]) w11 fun x45 w12 =>
 pN Try.prog (oBin .neq 3 (.tmp 45) (.const (.int .i64 0)) x45 (.int .i64 0)) w12 fun x46 w13 =>
 pIf x46
 (Q (.bool false) w13)
 (pN Try.prog (oCall 44 [x38]) w13 fun x48 w14 =>
 pN Try.prog (oBin .neq 3 (.tmp 48) (.const (.int .i64 0)) x48 (.int .i64 0)) w14 fun x49 w15 =>
 pGd (gB x49 false) (pN Try.prog (oMv x37) w15) w15 fun x51 w16 =>
 pGd (gB x49 false) (pN Try.prog (oBin .eql 75 (.tmp 51) (.const (.pointer none)) x51 (.pointer none)) w16) w16 fun x52 w17 =>
 pN Try.prog (oPick x49 (.bool true) x52) w17 fun x53 w18 =>
 pIf x53
 (pN Try.prog (oCall 44 [x38]) w18 fun x55 w19 =>
 pN Try.prog (oBin .neq 3 (.tmp 55) (.const (.int .i64 0)) x55 (.int .i64 0)) w19 fun x56 w20 =>
 pGd (gB x56 true) (pN Try.prog (oMv x37) w20) w20 fun x58 w21 =>
 pGd (gB x56 true) (pN Try.prog (oBin .eql 75 (.tmp 58) (.const (.pointer none)) x58 (.pointer none)) w21) w21 fun x59 w22 =>
 pN Try.prog (oPick x56 x59 (.bool false)) w22 fun x60 w23 =>
 pGd (gB x60 true) (pN Try.prog (oMv x0) w23) w23 fun x62 w24 =>
 pGd (gB x60 true) (pN Try.prog (oBi .len #[29] 3 [false] [x62]) w24) w24 fun x63 w25 =>
 pGd (gB x60 true) (pN Try.prog (oBin .lss 3 (.tmp 63) (.const (.int .i64 5)) x63 (.int .i64 5)) w25) w25 fun x64 w26 =>
 pGd (gB x60 true) (pN Try.prog (oMv x64) w26) w26 fun x65 w27 =>
 pGd (gB x65 false) (pN Try.prog (oMv x0) w27) w27 fun x66 w28 =>
 pGd (gB x65 false) (pN Try.prog (oIdx 29 x66 (.int .i64 0)) w28) w28 fun x67 w29 =>
 pGd (gB x65 false) (pN Try.prog (oLoad 5 x67) w29) w29 fun x68 w30 =>
 pGd (gB x65 false) (pN Try.prog (oBin .neq 5 (.tmp 68) (.const (.int .u8 0)) x68 (bv 0)) w30) w30 fun x69 w31 =>
 pGd (gB x60 true) (pN Try.prog (oPick x65 (.bool true) x69) w31) w31 fun x70 w32 =>
 pGd (gB x60 true) (pN Try.prog (oMv x70) w32) w32 fun x71 w33 =>
 pGd (gB x71 false) (pN Try.prog (oMv x0) w33) w33 fun x72 w34 =>
 pGd (gB x71 false) (pN Try.prog (oSl 29 x72 (some (.int .i64 1)) (some (.int .i64 5)) none) w34) w34 fun x73 w35 =>
 pGd (gB x71 false) (pN Try.prog (oConv 29 9 x73) w35) w35 fun x74 w36 =>
 pGd (gB x71 false) (pN Try.prog (oBin .eql 9 (.tmp 74) (.const (.string ⟨#[255, 255, 255, 255]⟩)) x74 (.string ⟨#[255, 255, 255, 255]⟩)) w36) w36 fun x75 w37 =>
 pGd (gB x60 true) (pN Try.prog (oPick x71 (.bool true) x75) w37) w37 fun x76 w38 =>
 pN Try.prog (oPick x60 x76 (.bool false)) w38 fun x77 w39 =>
 Q x77 w39)
 (pN Try.prog (oCall 56 [x37, x42, x2]) w18 fun x82 w40 =>
 pN Try.prog (oExt x82 0) w40 fun x83 w41 =>
 pN Try.prog (oExt x82 1) w41 fun _ w42 =>
 pN Try.prog (oBi .len #[22] 3 [false] [x83]) w42 fun x86 w43 =>
 ∃ (L12 : Value → Value → World → Prop) (m12 : Value → Value → World → Nat),
 L12 (.slice none 0 0) (.int .i64 0) w43 ∧
 ∀ (_k12 : Env) (l13l12 : Value) (v87l12 : Value) (w44 : World), L12 l13l12 v87l12 w44 →
 pN Try.prog (oBin .lss 3 (.tmp 87) (.tmp 86) v87l12 x86) w44 fun x88 w45 =>
 pIf x88
 (pN Try.prog (oIdx 22 x83 v87l12) w45 fun x90 w46 =>
 pN Try.prog (oLoad 26 x90) w46 fun x91 w47 =>
 pN Try.prog (oIdx 74 x2 v87l12) w47 fun x94 w48 =>
 pN Try.prog (oLoad 87 x94) w48 fun x95 w49 =>
 pN Try.prog (oAlloc 87) w49 fun x16 w50 =>
 pN Try.prog (oStore 87 x16 x95) w50 fun _ w51 =>
 pN Try.prog (oFld 87 x16 3) w51 fun x97 w52 =>
 pN Try.prog (oStore 26 x97 x91) w52 fun _ w53 =>
 pN Try.prog (oLoad 87 x16) w53 fun x99 w54 =>
 pN Try.prog (oBs 74 1 [(0, x99)]) w54 fun x100 w55 =>
 pN Try.prog (oBi .append #[74, 74] 74 [false, false] [l13l12, x100]) w55 fun x101 w56 =>
 pN Try.prog (oBin .add 3 (.tmp 87) (.const (.int .i64 1)) v87l12 (.int .i64 1)) w56 fun x102 w57 =>
 (L12 x101 x102 w57 ∧ m12 x101 x102 w57 < m12 l13l12 v87l12 w44))
 (pN Try.prog (oCall 69 [x1, l13l12]) w45 fun x106 w58 =>
 pN Try.prog (oExt x106 0) w58 fun x107 w59 =>
 pN Try.prog (oExt x106 1) w59 fun x108 w60 =>
 pN Try.prog (oExt x106 2) w60 fun _ w61 =>
 pN Try.prog (oBi .len #[74] 3 [false] [x108]) w61 fun x111 w62 =>
 pN Try.prog (oBi .len #[74] 3 [false] [l13l12]) w62 fun x113 w63 =>
 pN Try.prog (oBin .neq 3 (.tmp 111) (.tmp 113) x111 x113) w63 fun x114 w64 =>
 pIf x114
 (Q (.bool false) w64)
 (pN Try.prog (oCall 42 [x107]) w64 fun x117 w65 =>
 pN Try.prog (oExt x117 0) w65 fun x118 w66 =>
 pN Try.prog (oExt x117 1) w66 fun x119 w67 =>
 pN Try.prog (oCall 45 [x1]) w67 fun x122 w68 =>
 pN Try.prog (oExt x122 0) w68 fun x123 w69 =>
 pN Try.prog (oExt x122 1) w69 fun x124 w70 =>
 pN Try.prog (oCall 44 [x119]) w70 fun x126 w71 =>
 pN Try.prog (oBin .neq 3 (.tmp 126) (.const (.int .i64 0)) x126 (.int .i64 0)) w71 fun x127 w72 =>
 pGd (gB x127 false) (pN Try.prog (oMv x124) w72) w72 fun x129 w73 =>
 pGd (gB x127 false) (pN Try.prog (oCall 44 [x129]) w73) w73 fun x130 w74 =>
 pGd (gB x127 false) (pN Try.prog (oBin .neq 3 (.tmp 130) (.const (.int .i64 0)) x130 (.int .i64 0)) w74) w74 fun x131 w75 =>
 pN Try.prog (oPick x127 (.bool true) x131) w75 fun x132 w76 =>
 pGd (gB x132 false) (pN Try.prog (oMv x118) w76) w76 fun x134 w77 =>
 pGd (gB x132 false) (pN Try.prog (oBin .eql 75 (.tmp 134) (.const (.pointer none)) x134 (.pointer none)) w77) w77 fun x135 w78 =>
 pN Try.prog (oPick x132 (.bool true) x135) w78 fun x136 w79 =>
 pIf x136
 (Q (.bool false) w79)
 (pN Try.prog (oCall 56 [x118, x123, l13l12]) w79 fun x141 w80 =>
 pN Try.prog (oExt x141 0) w80 fun x142 w81 =>
 pN Try.prog (oExt x141 1) w81 fun x143 w82 =>
 pN Try.prog (oBi .len #[22] 3 [false] [x142]) w82 fun x145 w83 =>
 pN Try.prog (oBi .len #[22] 3 [false] [x83]) w83 fun x147 w84 =>
 pN Try.prog (oBin .neq 3 (.tmp 145) (.tmp 147) x145 x147) w84 fun x148 w85 =>
 pGd (gB x148 false) (pN Try.prog (oMv x143) w85) w85 fun x150 w86 =>
 pGd (gB x148 false) (pN Try.prog (oMv x107) w86) w86 fun x151 w87 =>
 pGd (gB x148 false) (pN Try.prog (oBi .len #[29] 3 [false] [x151]) w87) w87 fun x152 w88 =>
 pGd (gB x148 false) (pN Try.prog (oBin .neq 3 (.tmp 150) (.tmp 152) x150 x152) w88) w88 fun x153 w89 =>
 pN Try.prog (oPick x148 (.bool true) x153) w89 fun x154 w90 =>
 pGd (gB x154 false) (pN Try.prog (oMv x118) w90) w90 fun x156 w91 =>
 pGd (gB x154 false) (pN Try.prog (oCall 53 [x156]) w91) w91 fun x157 w92 =>
 pGd (gB x154 false) (pN Try.prog (oUn .not x157) w92) w92 fun x158 w93 =>
 pN Try.prog (oPick x154 (.bool true) x158) w93 fun x159 w94 =>
 pIf x159
 (Q (.bool false) w94)
 (pN Try.prog (oBi .len #[22] 3 [false] [x83]) w94 fun x161 w95 =>
 ∃ (L29 : Value → World → Prop) (m29 : Value → World → Nat),
 L29 (.int .i64 0) w95 ∧
 ∀ (_k29 : Env) (v162l29 : Value) (w96 : World), L29 v162l29 w96 →
 pN Try.prog (oBin .lss 3 (.tmp 162) (.tmp 161) v162l29 x161) w96 fun x163 w97 =>
 pIf x163
 (pDr w97 fun w98 =>
 pA Try.prog (oIdx 22 x83 v162l29) fun x167 =>
 pL Try.prog (oLoad 26 x167) w98 fun x168 =>
 pA Try.prog (oIdx 22 x142 v162l29) fun x171 =>
 pL Try.prog (oLoad 26 x171) w98 fun x172 =>
 pA Try.prog (oBin .neq 26 (.tmp 168) (.tmp 172) x168 x172) fun x173 =>
 pIf x173
 (Q (.bool false) w98)
 (pN Try.prog (oBin .add 3 (.tmp 162) (.const (.int .i64 1)) v162l29 (.int .i64 1)) w98 fun x174 w99 =>
 (L29 x174 w99 ∧ m29 x174 w99 < m29 v162l29 w96)))
 (Q (.bool true) w97))))))))
noncomputable def pithlaw08_RcdecAgain.c : Code := match Try.f15.body with | some c => c | none => .skip
theorem pithlaw08_RcdecAgain.eq [Pan] (x0 : Value) (x1 : Value) (x2 : Value) (w : World) (Q : Value → World → Prop) : cw Try.prog pithlaw08_RcdecAgain.H pithlaw08_RcdecAgain.c (endQ Try.prog Try.f15.results.toList Q) (argsE [x0, x1, x2]) w = pithlaw08_RcdecAgain.F x0 x1 x2 w Q := by kernel_rfl
theorem pithlaw08_RcdecAgain.calls [Pan] {x0 : Value} {x1 : Value} {x2 : Value} {w : World} {Q : Value → World → Prop} (h : pithlaw08_RcdecAgain.F x0 x1 x2 w Q) : Calls Try.prog 15 #[x0, x1, x2] w (retP Q) :=
  calls_of_cw (H := pithlaw08_RcdecAgain.H) (c := pithlaw08_RcdecAgain.c) (args := [x0, x1, x2]) mixed Try.func15 (by kernel_rfl) (by kernel_rfl) (Nat.le_of_ble_eq_true (by kernel_rfl)) ((pithlaw08_RcdecAgain.eq x0 x1 x2 w Q).mpr h)

/-! pithlaw08_known: pith/pithlaw08.known; temporaries: 1:d 2:e 3:s 4:f 5:bit 6:g 7:o 8:h 9:v 10:k -/
def pithlaw08_known.H : Hints := { cut := fun  | _ => none, loop := fun  | _ => ([], 0), order := fun  | _ => [] }
def pithlaw08_known.F [Pan]  (w : World) (Q : Value → World → Prop) : Prop :=
 pN Try.prog (oBs 29 5 [(0, (bv 0)), (1, (bv 127)), (2, (bv 255)), (3, (bv 252)), (4, (bv 0))]) w fun x12 w1 =>
 pN Try.prog (oCall 42 [x12]) w1 fun x13 w2 =>
 pN Try.prog (oExt x13 0) w2 fun x14 w3 =>
 pN Try.prog (oExt x13 1) w3 fun x15 w4 =>
 pN Try.prog (oCall 45 [(.int .i64 1)]) w4 fun x17 w5 =>
 pN Try.prog (oExt x17 0) w5 fun x18 w6 =>
 pN Try.prog (oExt x17 1) w6 fun x19 w7 =>
 pN Try.prog (oCall 44 [x15]) w7 fun x21 w8 =>
 pN Try.prog (oBin .neq 3 (.tmp 21) (.const (.int .i64 0)) x21 (.int .i64 0)) w8 fun x22 w9 =>
 pGd (gB x22 false) (pN Try.prog (oMv x19) w9) w9 fun x24 w10 =>
 pGd (gB x22 false) (pN Try.prog (oCall 44 [x24]) w10) w10 fun x25 w11 =>
 pGd (gB x22 false) (pN Try.prog (oBin .neq 3 (.tmp 25) (.const (.int .i64 0)) x25 (.int .i64 0)) w11) w11 fun x26 w12 =>
 pN Try.prog (oPick x22 (.bool true) x26) w12 fun x27 w13 =>
 pGd (gB x27 false) (pN Try.prog (oMv x14) w13) w13 fun x29 w14 =>
 pGd (gB x27 false) (pN Try.prog (oBin .eql 75 (.tmp 29) (.const (.pointer none)) x29 (.pointer none)) w14) w14 fun x30 w15 =>
 pN Try.prog (oPick x27 (.bool true) x30) w15 fun x31 w16 =>
 pGd (gB x31 false) (pN Try.prog (oMv x18) w16) w16 fun x33 w17 =>
 pGd (gB x31 false) (pN Try.prog (oBin .eql 34 (.tmp 33) (.const (.pointer none)) x33 (.pointer none)) w17) w17 fun x34 w18 =>
 pN Try.prog (oPick x31 (.bool true) x34) w18 fun x35 w19 =>
 pIf x35
 (Q (.bool false) w19)
 (pN Try.prog (oCall 49 [x14, x18, (.int .i64 0)]) w19 fun x39 w20 =>
 pN Try.prog (oExt x39 0) w20 fun x40 w21 =>
 pN Try.prog (oExt x39 1) w21 fun x41 w22 =>
 pN Try.prog (oBs 29 5 [(0, (bv 0)), (1, (bv 255)), (2, (bv 255)), (3, (bv 255)), (4, (bv 254))]) w22 fun x43 w23 =>
 pN Try.prog (oCall 42 [x43]) w23 fun x44 w24 =>
 pN Try.prog (oExt x44 0) w24 fun x45 w25 =>
 pN Try.prog (oExt x44 1) w25 fun x46 w26 =>
 pN Try.prog (oCall 44 [x46]) w26 fun x48 w27 =>
 pN Try.prog (oBin .neq 3 (.tmp 48) (.const (.int .i64 0)) x48 (.int .i64 0)) w27 fun x49 w28 =>
 pGd (gB x49 false) (pN Try.prog (oMv x45) w28) w28 fun x51 w29 =>
 pGd (gB x49 false) (pN Try.prog (oBin .eql 75 (.tmp 51) (.const (.pointer none)) x51 (.pointer none)) w29) w29 fun x52 w30 =>
 pN Try.prog (oPick x49 (.bool true) x52) w30 fun x53 w31 =>
 pIf x53
 (Q (.bool false) w31)
 (pN Try.prog (oCall 47 [x45, (.int .i64 1)]) w31 fun x56 w32 =>
 pN Try.prog (oExt x56 0) w32 fun x57 w33 =>
 pN Try.prog (oExt x56 1) w33 fun x58 w34 =>
 pN Try.prog (oBin .eql 3 (.tmp 59) (.const (.int .i64 1)) x40 (.int .i64 1)) w34 fun x60 w35 =>
 pGd (gB x60 true) (pN Try.prog (oMv x41) w35) w35 fun x62 w36 =>
 pGd (gB x60 true) (pN Try.prog (oCall 44 [x62]) w36) w36 fun x63 w37 =>
 pGd (gB x60 true) (pN Try.prog (oBin .eql 3 (.tmp 63) (.const (.int .i64 0)) x63 (.int .i64 0)) w37) w37 fun x64 w38 =>
 pN Try.prog (oPick x60 x64 (.bool false)) w38 fun x65 w39 =>
 pGd (gB x65 true) (pN Try.prog (oMv x14) w39) w39 fun x67 w40 =>
 pGd (gB x65 true) (pN Try.prog (oCall 51 [x67]) w40) w40 fun x68 w41 =>
 pGd (gB x65 true) (pN Try.prog (oBin .eql 3 (.tmp 68) (.const (.int .i64 5)) x68 (.int .i64 5)) w41) w41 fun x69 w42 =>
 pN Try.prog (oPick x65 x69 (.bool false)) w42 fun x70 w43 =>
 pGd (gB x70 true) (pN Try.prog (oMv x14) w43) w43 fun x72 w44 =>
 pGd (gB x70 true) (pN Try.prog (oCall 53 [x72]) w44) w44 fun x73 w45 =>
 pN Try.prog (oPick x70 x73 (.bool false)) w45 fun x74 w46 =>
 pGd (gB x74 true) (pN Try.prog (oMv x57) w46) w46 fun x76 w47 =>
 pGd (gB x74 true) (pN Try.prog (oBin .eql 26 (.tmp 76) (.const (.int .u32 0)) x76 (.int .u32 0)) w47) w47 fun x77 w48 =>
 pN Try.prog (oPick x74 x77 (.bool false)) w48 fun x78 w49 =>
 pGd (gB x78 true) (pN Try.prog (oMv x58) w49) w49 fun x80 w50 =>
 pGd (gB x78 true) (pN Try.prog (oCall 44 [x80]) w50) w50 fun x81 w51 =>
 pGd (gB x78 true) (pN Try.prog (oBin .eql 3 (.tmp 81) (.const (.int .i64 2)) x81 (.int .i64 2)) w51) w51 fun x82 w52 =>
 pN Try.prog (oPick x78 x82 (.bool false)) w52 fun x83 w53 =>
 pGd (gB x83 true) (pN Try.prog (oMv x45) w53) w53 fun x85 w54 =>
 pGd (gB x83 true) (pN Try.prog (oCall 51 [x85]) w54) w54 fun x86 w55 =>
 pGd (gB x83 true) (pN Try.prog (oBin .eql 3 (.tmp 86) (.const (.int .i64 5)) x86 (.int .i64 5)) w55) w55 fun x87 w56 =>
 pN Try.prog (oPick x83 x87 (.bool false)) w56 fun x88 w57 =>
 Q x88 w57))
noncomputable def pithlaw08_known.c : Code := match Try.f41.body with | some c => c | none => .skip
theorem pithlaw08_known.eq [Pan]  (w : World) (Q : Value → World → Prop) : cw Try.prog pithlaw08_known.H pithlaw08_known.c (endQ Try.prog Try.f41.results.toList Q) (argsE []) w = pithlaw08_known.F  w Q := by kernel_rfl
theorem pithlaw08_known.calls [Pan]  {w : World} {Q : Value → World → Prop} (h : pithlaw08_known.F  w Q) : Calls Try.prog 41 #[] w (retP Q) :=
  calls_of_cw (H := pithlaw08_known.H) (c := pithlaw08_known.c) (args := []) mixed Try.func41 (by kernel_rfl) (by kernel_rfl) (Nat.le_of_ble_eq_true (by kernel_rfl)) ((pithlaw08_known.eq  w Q).mpr h)

/-! pithlaw08_num: pith/pithlaw08.num; temporaries: 0:e 1:e -/
def pithlaw08_num.H : Hints := { cut := fun  | _ => none, loop := fun  | _ => ([], 0), order := fun  | _ => [] }
def pithlaw08_num.F [Pan] (x0 : Value) (w : World) (Q : Value → World → Prop) : Prop :=
 Q x0 w
noncomputable def pithlaw08_num.c : Code := match Try.f44.body with | some c => c | none => .skip
theorem pithlaw08_num.eq [Pan] (x0 : Value) (w : World) (Q : Value → World → Prop) : cw Try.prog pithlaw08_num.H pithlaw08_num.c (endQ Try.prog Try.f44.results.toList Q) (argsE [x0]) w = pithlaw08_num.F x0 w Q := by kernel_rfl
theorem pithlaw08_num.calls [Pan] {x0 : Value} {w : World} {Q : Value → World → Prop} (h : pithlaw08_num.F x0 w Q) : Calls Try.prog 44 #[x0] w (retP Q) :=
  calls_of_cw (H := pithlaw08_num.H) (c := pithlaw08_num.c) (args := [x0]) mixed Try.func44 (by kernel_rfl) (by kernel_rfl) (Nat.le_of_ble_eq_true (by kernel_rfl)) ((pithlaw08_num.eq x0 w Q).mpr h)

/-! pithlaw08_alike: pith/pithlaw08.alike; temporaries: 0:s 1:r 2:n 3:s 4:r 5:n 7:i 8:p 9:e 10:q 11:f -/
def pithlaw08_alike.H : Hints := { cut := fun  | _ => none, loop := fun | 2 => ([7], 274877906880) | _ => ([], 0), order := fun  | _ => [] }
def pithlaw08_alike.F [Pan] (x0 : Value) (x1 : Value) (x2 : Value) (w : World) (Q : Value → World → Prop) : Prop :=
 ∃ (L2 : Value → World → Prop) (m2 : Value → World → Nat),
 L2 (.int .i64 0) w ∧
 ∀ (_k2 : Env) (i7l2 : Value) (w1 : World), L2 i7l2 w1 →
 pN Try.prog (oBin .lss 3 (.tmp 12) (.tmp 13) i7l2 x2) w1 fun x14 w2 =>
 pIf x14
 (pN Try.prog (oCall 28 [x0, i7l2]) w2 fun x20 w3 =>
 pN Try.prog (oExt x20 0) w3 fun x21 w4 =>
 pN Try.prog (oExt x20 1) w4 fun x22 w5 =>
 pN Try.prog (oCall 79 [x1, i7l2]) w5 fun x26 w6 =>
 pN Try.prog (oExt x26 0) w6 fun x27 w7 =>
 pN Try.prog (oExt x26 1) w7 fun x28 w8 =>
 pN Try.prog (oBin .neq 3 (.tmp 29) (.tmp 30) x21 x27) w8 fun x31 w9 =>
 pGd (gB x31 false) (pN Try.prog (oMv x22) w9) w9 fun x33 w10 =>
 pGd (gB x31 false) (pN Try.prog (oCall 44 [x33]) w10) w10 fun x34 w11 =>
 pGd (gB x31 false) (pN Try.prog (oMv x28) w11) w11 fun x35 w12 =>
 pGd (gB x31 false) (pN Try.prog (oBin .neq 3 (.tmp 34) (.tmp 35) x34 x35) w12) w12 fun x36 w13 =>
 pN Try.prog (oPick x31 (.bool true) x36) w13 fun x37 w14 =>
 pIf x37
 (Q (.bool false) w14)
 (pN Try.prog (oBin .add 3 (.tmp 15) (.const (.int .i64 1)) i7l2 (.int .i64 1)) w14 fun x16 w15 =>
 (L2 x16 w15 ∧ m2 x16 w15 < m2 i7l2 w1)))
 (Q (.bool true) w2)
noncomputable def pithlaw08_alike.c : Code := match Try.f55.body with | some c => c | none => .skip
theorem pithlaw08_alike.eq [Pan] (x0 : Value) (x1 : Value) (x2 : Value) (w : World) (Q : Value → World → Prop) : cw Try.prog pithlaw08_alike.H pithlaw08_alike.c (endQ Try.prog Try.f55.results.toList Q) (argsE [x0, x1, x2]) w = pithlaw08_alike.F x0 x1 x2 w Q := by kernel_rfl
theorem pithlaw08_alike.calls [Pan] {x0 : Value} {x1 : Value} {x2 : Value} {w : World} {Q : Value → World → Prop} (h : pithlaw08_alike.F x0 x1 x2 w Q) : Calls Try.prog 55 #[x0, x1, x2] w (retP Q) :=
  calls_of_cw (H := pithlaw08_alike.H) (c := pithlaw08_alike.c) (args := [x0, x1, x2]) mixed Try.func55 (by kernel_rfl) (by kernel_rfl) (Nat.le_of_ble_eq_true (by kernel_rfl)) ((pithlaw08_alike.eq x0 x1 x2 w Q).mpr h)

/-! pithlaw08_answered: pith/pithlaw08.answered; temporaries: 0:d 1:s 2:asks 3:d 4:s 5:asks 8:l 9:_ 10:a 11:v 12:e 13:bit 14:e -/
def pithlaw08_answered.H : Hints := { cut := fun | 14 => some ([8], 576460752302931392) | _ => none, loop := fun | 3 => ([8, 17], 1152921504606748096) | _ => ([], 0), order := fun  | _ => [] }
def pithlaw08_answered.F [Pan] (x0 : Value) (x1 : Value) (x2 : Value) (w : World) (Q : Value → World → Prop) : Prop :=
 pN Try.prog (oBi .len #[74] 3 [false] [x2]) w fun x16 w1 =>
 ∃ (L3 : Value → Value → World → Prop) (m3 : Value → Value → World → Nat),
 L3 (.slice none 0 0) (.int .i64 0) w1 ∧
 ∀ (_k3 : Env) (l8l3 : Value) (v17l3 : Value) (w2 : World), L3 l8l3 v17l3 w2 →
 pN Try.prog (oBin .lss 3 (.tmp 17) (.tmp 16) v17l3 x16) w2 fun x18 w3 =>
 pIf x18
 (∃ I14 : Value → World → Prop,
 (pN Try.prog (oIdx 74 x2 v17l3) w3 fun x19 w4 =>
 pN Try.prog (oLoad 87 x19) w4 fun x20 w5 =>
 pN Try.prog (oAlloc 87) w5 fun x10 w6 =>
 pN Try.prog (oStore 87 x10 x20) w6 fun _ w7 =>
 pN Try.prog (oFld 87 x10 0) w7 fun x21 w8 =>
 pN Try.prog (oLoad 4 x21) w8 fun x22 w9 =>
 pIf x22
 (pN Try.prog (oFld 87 x10 2) w9 fun x25 w10 =>
 pN Try.prog (oLoad 3 x25) w10 fun x26 w11 =>
 pN Try.prog (oCall 47 [x0, x26]) w11 fun x27 w12 =>
 pN Try.prog (oExt x27 0) w12 fun x28 w13 =>
 pN Try.prog (oExt x27 1) w13 fun x29 w14 =>
 pN Try.prog (oCall 44 [x29]) w14 fun x31 w15 =>
 pN Try.prog (oBin .neq 3 (.tmp 31) (.const (.int .i64 0)) x31 (.int .i64 0)) w15 fun x32 w16 =>
 pIf x32
 (pN Try.prog (oCall 51 [x0]) w16 fun x35 w17 =>
 Q (.tuple #[l8l3, x35]) w17)
 (pN Try.prog (oBs 22 1 [(0, x28)]) w16 fun x38 w18 =>
 pN Try.prog (oBi .append #[22, 22] 22 [false, false] [l8l3, x38]) w18 fun x39 w19 =>
 I14 x39 w19))
 (pN Try.prog (oFld 87 x10 1) w9 fun x43 w20 =>
 pN Try.prog (oLoad 3 x43) w20 fun x44 w21 =>
 pN Try.prog (oCall 49 [x0, x1, x44]) w21 fun x45 w22 =>
 pN Try.prog (oExt x45 0) w22 fun x46 w23 =>
 pN Try.prog (oExt x45 1) w23 fun x47 w24 =>
 pN Try.prog (oCall 44 [x47]) w24 fun x49 w25 =>
 pN Try.prog (oBin .neq 3 (.tmp 49) (.const (.int .i64 0)) x49 (.int .i64 0)) w25 fun x50 w26 =>
 pIf x50
 (pN Try.prog (oCall 51 [x0]) w26 fun x53 w27 =>
 Q (.tuple #[l8l3, x53]) w27)
 (pN Try.prog (oConv 3 26 x46) w26 fun x56 w28 =>
 pN Try.prog (oBs 22 1 [(0, x56)]) w28 fun x57 w29 =>
 pN Try.prog (oBi .append #[22, 22] 22 [false, false] [l8l3, x57]) w29 fun x58 w30 =>
 I14 x58 w30))) ∧
 ∀ (_j14 : Env) (l8c14 : Value) (w31 : World), I14 l8c14 w31 →
 pN Try.prog (oBin .add 3 (.tmp 17) (.const (.int .i64 1)) v17l3 (.int .i64 1)) w31 fun x59 w32 =>
 (L3 l8c14 x59 w32 ∧ m3 l8c14 x59 w32 < m3 l8l3 v17l3 w2))
 (pN Try.prog (oCall 51 [x0]) w3 fun x62 w33 =>
 Q (.tuple #[l8l3, x62]) w33)
noncomputable def pithlaw08_answered.c : Code := match Try.f56.body with | some c => c | none => .skip
theorem pithlaw08_answered.eq [Pan] (x0 : Value) (x1 : Value) (x2 : Value) (w : World) (Q : Value → World → Prop) : cw Try.prog pithlaw08_answered.H pithlaw08_answered.c (endQ Try.prog Try.f56.results.toList Q) (argsE [x0, x1, x2]) w = pithlaw08_answered.F x0 x1 x2 w Q := by kernel_rfl
theorem pithlaw08_answered.calls [Pan] {x0 : Value} {x1 : Value} {x2 : Value} {w : World} {Q : Value → World → Prop} (h : pithlaw08_answered.F x0 x1 x2 w Q) : Calls Try.prog 56 #[x0, x1, x2] w (retP Q) :=
  calls_of_cw (H := pithlaw08_answered.H) (c := pithlaw08_answered.c) (args := [x0, x1, x2]) mixed Try.func56 (by kernel_rfl) (by kernel_rfl) (Nat.le_of_ble_eq_true (by kernel_rfl)) ((pithlaw08_answered.eq x0 x1 x2 w Q).mpr h)

/-! pithlaw08_encoded: pith/pithlaw08.encoded; temporaries: 0:n 1:asks 2:n 3:asks 7:s 8:e 9:enc 10:l 11:_ 12:a -/
def pithlaw08_encoded.H : Hints := { cut := fun | 13 => some ([10], 1152921435887371376) | 17 => some ([10], 618970019642690120269698160) | _ => none, loop := fun | 7 => ([10, 32], 1237940039285380270604162160) | _ => ([], 0), order := fun  | _ => [] }
def pithlaw08_encoded.F [Pan] (x0 : Value) (x1 : Value) (w : World) (Q : Value → World → Prop) : Prop :=
 pN Try.prog (oCall 45 [x0]) w fun x15 w1 =>
 pN Try.prog (oExt x15 0) w1 fun x16 w2 =>
 pN Try.prog (oExt x15 1) w2 fun x17 w3 =>
 pN Try.prog (oCall 18 []) w3 fun x18 w4 =>
 pN Try.prog (oCall 44 [x17]) w4 fun x20 w5 =>
 pN Try.prog (oBin .neq 3 (.tmp 20) (.const (.int .i64 0)) x20 (.int .i64 0)) w5 fun x21 w6 =>
 pGd (gB x21 false) (pN Try.prog (oMv x16) w6) w6 fun x23 w7 =>
 pGd (gB x21 false) (pN Try.prog (oBin .eql 34 (.tmp 23) (.const (.pointer none)) x23 (.pointer none)) w7) w7 fun x24 w8 =>
 pN Try.prog (oPick x21 (.bool true) x24) w8 fun x25 w9 =>
 pGd (gB x25 false) (pN Try.prog (oMv x18) w9) w9 fun x27 w10 =>
 pGd (gB x25 false) (pN Try.prog (oBin .eql 24 (.tmp 27) (.const (.pointer none)) x27 (.pointer none)) w10) w10 fun x28 w11 =>
 pN Try.prog (oPick x25 (.bool true) x28) w11 fun x29 w12 =>
 pIf x29
 (Q (.tuple #[(.slice none 0 0), (.slice none 0 0), (.pointer none)]) w12)
 (pN Try.prog (oBi .len #[74] 3 [false] [x1]) w12 fun x31 w13 =>
 ∃ (L7 : Value → Value → World → Prop) (m7 : Value → Value → World → Nat),
 L7 (.slice none 0 0) (.int .i64 0) w13 ∧
 ∀ (_k7 : Env) (l10l7 : Value) (v32l7 : Value) (w14 : World), L7 l10l7 v32l7 w14 →
 pN Try.prog (oBin .lss 3 (.tmp 32) (.tmp 31) v32l7 x31) w14 fun x33 w15 =>
 pIf x33
 (∃ I17 : Value → World → Prop,
 (pN Try.prog (oIdx 74 x1 v32l7) w15 fun x34 w16 =>
 pN Try.prog (oLoad 87 x34) w16 fun x35 w17 =>
 pN Try.prog (oAlloc 87) w17 fun x12 w18 =>
 pN Try.prog (oStore 87 x12 x35) w18 fun _ w19 =>
 ∃ I13 : Value → World → Prop,
 (pN Try.prog (oFld 87 x12 0) w19 fun x36 w20 =>
 pN Try.prog (oLoad 4 x36) w20 fun x37 w21 =>
 pGd (gB x37 true) (pN Try.prog (oFld 87 x12 2) w21) w21 fun x39 w22 =>
 pGd (gB x37 true) (pN Try.prog (oLoad 3 x39) w22) w22 fun x40 w23 =>
 pGd (gB x37 true) (pN Try.prog (oBin .geq 3 (.tmp 40) (.const (.int .i64 0)) x40 (.int .i64 0)) w23) w23 fun x41 w24 =>
 pN Try.prog (oPick x37 x41 (.bool false)) w24 fun x42 w25 =>
 pGd (gB x42 true) (pN Try.prog (oFld 87 x12 2) w25) w25 fun x44 w26 =>
 pGd (gB x42 true) (pN Try.prog (oLoad 3 x44) w26) w26 fun x45 w27 =>
 pGd (gB x42 true) (pN Try.prog (oBin .leq 3 (.tmp 45) (.const (.int .i64 32)) x45 (.int .i64 32)) w27) w27 fun x46 w28 =>
 pN Try.prog (oPick x42 x46 (.bool false)) w28 fun x47 w29 =>
 pIf x47
 (pN Try.prog (oFld 87 x12 3) w29 fun x49 w30 =>
 pN Try.prog (oLoad 26 x49) w30 fun x50 w31 =>
 pN Try.prog (oFld 87 x12 2) w31 fun x51 w32 =>
 pN Try.prog (oLoad 3 x51) w32 fun x52 w33 =>
 pN Try.prog (oCall 19 [x18, x50, x52]) w33 fun x53 w34 =>
 pN Try.prog (oCall 44 [x53]) w34 fun x54 w35 =>
 pN Try.prog (oBin .neq 3 (.tmp 54) (.const (.int .i64 0)) x54 (.int .i64 0)) w35 fun x55 w36 =>
 pIf x55
 (Q (.tuple #[(.slice none 0 0), (.slice none 0 0), (.pointer none)]) w36)
 (pN Try.prog (oLoad 87 x12) w36 fun x57 w37 =>
 pN Try.prog (oBs 74 1 [(0, x57)]) w37 fun x58 w38 =>
 pN Try.prog (oBi .append #[74, 74] 74 [false, false] [l10l7, x58]) w38 fun x59 w39 =>
 I13 x59 w39))
 (I13 l10l7 w29)) ∧
 ∀ (_j13 : Env) (l10c13 : Value) (w40 : World), I13 l10c13 w40 →
 pN Try.prog (oFld 87 x12 0) w40 fun x60 w41 =>
 pN Try.prog (oLoad 4 x60) w41 fun x61 w42 =>
 pN Try.prog (oUn .not x61) w42 fun x62 w43 =>
 pGd (gB x62 true) (pN Try.prog (oFld 87 x12 1) w43) w43 fun x64 w44 =>
 pGd (gB x62 true) (pN Try.prog (oLoad 3 x64) w44) w44 fun x65 w45 =>
 pGd (gB x62 true) (pN Try.prog (oBin .geq 3 (.tmp 65) (.const (.int .i64 0)) x65 (.int .i64 0)) w45) w45 fun x66 w46 =>
 pN Try.prog (oPick x62 x66 (.bool false)) w46 fun x67 w47 =>
 pGd (gB x67 true) (pN Try.prog (oFld 87 x12 1) w47) w47 fun x69 w48 =>
 pGd (gB x67 true) (pN Try.prog (oLoad 3 x69) w48) w48 fun x70 w49 =>
 pGd (gB x67 true) (pN Try.prog (oMv x0) w49) w49 fun x71 w50 =>
 pGd (gB x67 true) (pN Try.prog (oBin .lss 3 (.tmp 70) (.tmp 71) x70 x71) w50) w50 fun x72 w51 =>
 pN Try.prog (oPick x67 x72 (.bool false)) w51 fun x73 w52 =>
 pIf x73
 (pN Try.prog (oFld 87 x12 1) w52 fun x76 w53 =>
 pN Try.prog (oLoad 3 x76) w53 fun x77 w54 =>
 pN Try.prog (oFld 87 x12 3) w54 fun x78 w55 =>
 pN Try.prog (oLoad 26 x78) w55 fun x79 w56 =>
 pN Try.prog (oBin .and 26 (.tmp 79) (.const (.int .u32 1)) x79 (.int .u32 1)) w56 fun x80 w57 =>
 pN Try.prog (oConv 26 3 x80) w57 fun x81 w58 =>
 pN Try.prog (oCall 27 [x18, x16, x77, x81]) w58 fun x82 w59 =>
 pN Try.prog (oCall 44 [x82]) w59 fun x83 w60 =>
 pN Try.prog (oBin .neq 3 (.tmp 83) (.const (.int .i64 0)) x83 (.int .i64 0)) w60 fun x84 w61 =>
 pIf x84
 (Q (.tuple #[(.slice none 0 0), (.slice none 0 0), (.pointer none)]) w61)
 (pN Try.prog (oLoad 87 x12) w61 fun x86 w62 =>
 pN Try.prog (oBs 74 1 [(0, x86)]) w62 fun x87 w63 =>
 pN Try.prog (oBi .append #[74, 74] 74 [false, false] [l10c13, x87]) w63 fun x88 w64 =>
 I17 x88 w64))
 (I17 l10c13 w52)) ∧
 ∀ (_j17 : Env) (l10c17 : Value) (w65 : World), I17 l10c17 w65 →
 pN Try.prog (oBin .add 3 (.tmp 32) (.const (.int .i64 1)) v32l7 (.int .i64 1)) w65 fun x89 w66 =>
 (L7 l10c17 x89 w66 ∧ m7 l10c17 x89 w66 < m7 l10l7 v32l7 w14))
 (pN Try.prog (oCall 20 [x18]) w15 fun x91 w67 =>
 Q (.tuple #[x91, l10l7, x16]) w67))
noncomputable def pithlaw08_encoded.c : Code := match Try.f69.body with | some c => c | none => .skip
theorem pithlaw08_encoded.eq [Pan] (x0 : Value) (x1 : Value) (w : World) (Q : Value → World → Prop) : cw Try.prog pithlaw08_encoded.H pithlaw08_encoded.c (endQ Try.prog Try.f69.results.toList Q) (argsE [x0, x1]) w = pithlaw08_encoded.F x0 x1 w Q := by kernel_rfl
theorem pithlaw08_encoded.calls [Pan] {x0 : Value} {x1 : Value} {w : World} {Q : Value → World → Prop} (h : pithlaw08_encoded.F x0 x1 w Q) : Calls Try.prog 69 #[x0, x1] w (retP Q) :=
  calls_of_cw (H := pithlaw08_encoded.H) (c := pithlaw08_encoded.c) (args := [x0, x1]) mixed Try.func69 (by kernel_rfl) (by kernel_rfl) (Nat.le_of_ble_eq_true (by kernel_rfl)) ((pithlaw08_encoded.eq x0 x1 w Q).mpr h)

/-! pithlaw08_low: pith/pithlaw08.low; temporaries: 0:v 1:n 2:v 3:n -/
def pithlaw08_low.H : Hints := { cut := fun  | _ => none, loop := fun  | _ => ([], 0), order := fun  | _ => [] }
def pithlaw08_low.F [Pan] (x0 : Value) (x1 : Value) (w : World) (Q : Value → World → Prop) : Prop :=
 pN Try.prog (oBin .geq 3 (.tmp 5) (.const (.int .i64 32)) x1 (.int .i64 32)) w fun x6 w1 =>
 pIf x6
 (Q x0 w1)
 (pN Try.prog (oBin .shl 26 (.const (.int .u32 1)) (.tmp 9) (.int .u32 1) x1) w1 fun x10 w2 =>
 pN Try.prog (oBin .sub 26 (.tmp 10) (.const (.int .u32 1)) x10 (.int .u32 1)) w2 fun x11 w3 =>
 pN Try.prog (oBin .and 26 (.tmp 8) (.tmp 11) x0 x11) w3 fun x12 w4 =>
 Q x12 w4)
noncomputable def pithlaw08_low.c : Code := match Try.f70.body with | some c => c | none => .skip
theorem pithlaw08_low.eq [Pan] (x0 : Value) (x1 : Value) (w : World) (Q : Value → World → Prop) : cw Try.prog pithlaw08_low.H pithlaw08_low.c (endQ Try.prog Try.f70.results.toList Q) (argsE [x0, x1]) w = pithlaw08_low.F x0 x1 w Q := by kernel_rfl
theorem pithlaw08_low.calls [Pan] {x0 : Value} {x1 : Value} {w : World} {Q : Value → World → Prop} (h : pithlaw08_low.F x0 x1 w Q) : Calls Try.prog 70 #[x0, x1] w (retP Q) :=
  calls_of_cw (H := pithlaw08_low.H) (c := pithlaw08_low.c) (args := [x0, x1]) mixed Try.func70 (by kernel_rfl) (by kernel_rfl) (Nat.le_of_ble_eq_true (by kernel_rfl)) ((pithlaw08_low.eq x0 x1 w Q).mpr h)

end Go.Proofs.Ytoejaggkedlfmaa
