/-
  Texts of one proof, one behind the other: LfPithlaw08, LfRcdec, Part, DecP, Dec, Wide, DecD, LfPithref08.
-/
import Derived.Test.YtoejaggkedlfmaaRows
import Derived.Deep.DeepAppendWide
import Derived.Test.YtoejaggkedlfmaaMg5
namespace Go.Proofs.Ytoejaggkedlfmaa
open Go
set_option linter.unusedSimpArgs false
set_option linter.unnecessarySimpa false
set_option linter.unusedSectionVars false
set_option linter.unusedVariables false
set_option maxRecDepth 100000

/-! pithlaw08_RcdecExact: pith/pithlaw08.RcdecExact; temporaries: 0:b 1:n 2:asks 3:b 4:n 5:asks 7:l 8:d 9:e 10:r 11:f 12:i 13:s 14:g 15:t 16:_ 17:_ 18:a 19:v 20:e 21:w 22:f 23:v 24:e 25:w 26:f -/
def pithlaw08_RcdecExact.H : Hints := { cut := fun | 31 => some ([], 93536104789177703688286092736600056770038548922432) | 33 => some ([], 383123885216472214568817569353437985390562795362975808) | _ => none, loop := fun | 11 => ([86], 9826149061827705932011802624) | 20 => ([112], 766247770432944429173981216716619764180839064896536640) | _ => ([], 0), order := fun | 6 => [(0, 0), (2, 1), (1, 5), (3, 7), (4, 15), (5, 31), (6, 63), (7, 127), (8, 255), (9, 511), (10, 1023), (11, 2047), (12, 4095), (13, 8191), (14, 16383), (15, 32767), (16, 65535), (17, 131071), (18, 262143), (19, 524287), (20, 1048575), (21, 2097151), (22, 4194303), (23, 8388607), (24, 16777215), (25, 33554431), (26, 67108863), (27, 134217727), (28, 268435455)] | _ => [] }
def pithlaw08_RcdecExact.F [Pan] (x0 : Value) (x1 : Value) (x2 : Value) (w : World) (Q : Value → World → Prop) : Prop :=
 pN Try.prog (oBin .lss 3 (.tmp 27) (.const (.int .i64 0)) x1 (.int .i64 0)) w fun x28 w1 =>
 pGd (gB x28 false) (pN Try.prog (oMv x1) w1) w1 fun x30 w2 =>
 pGd (gB x28 false) (pN Try.prog (oBin .gtr 3 (.tmp 30) (.const (.int .i64 64)) x30 (.int .i64 64)) w2) w2 fun x31 w3 =>
 pN Try.prog (oPick x28 (.bool true) x31) w3 fun x32 w4 =>
 pIf x32
 (pN Try.prog (oCall 41 []) w4 fun x33 w5 =>
 Q x33 w5)
 (pN Try.prog (oBs 29 0 []) w4 fun x34 w6 =>
 pN Try.prog (oBi .append #[29, 29] 29 [false, false] [x34, x0]) w6 fun x36 w7 =>
 pN Try.prog (oBs 29 1 [(0, (bv 153))]) w7 fun x37 w8 =>
 pN Try.prog (oBi .append #[29, 29] 29 [false, false] [x36, x37]) w8 fun x38 w9 =>
 pN Try.prog (oBi .len #[29] 3 [false] [x0]) w9 fun x42 w10 =>
 pN Try.prog (oSl 29 x38 none (some x42) none) w10 fun x43 w11 =>
 pN Try.prog (oCall 42 [x43]) w11 fun x44 w12 =>
 pN Try.prog (oExt x44 0) w12 fun x45 w13 =>
 pN Try.prog (oExt x44 1) w13 fun x46 w14 =>
 pN Try.prog (oCall 43 [x0]) w14 fun x49 w15 =>
 pN Try.prog (oExt x49 0) w15 fun x50 w16 =>
 pN Try.prog (oExt x49 1) w16 fun x51 w17 =>
 pDr w17 fun w18 =>
 pN Try.prog (oCall 44 [x46]) w18 fun x53 w19 =>
 (True) ∧ (pA Try.prog (oBin .neq 3 (.tmp 53) (.tmp 54) x53 x51) fun x55 =>
 gA (gB x55 false) (pA Try.prog (oMv x45)) fun x57 =>
 gA (gB x55 false) (pA Try.prog (oBin .eql 75 (.tmp 57) (.const (.pointer none)) x57 (.pointer none))) fun x58 =>
 gA (gB x55 false) (pA Try.prog (oMv x50)) fun x59 =>
 gA (gB x55 false) (pA Try.prog (oBin .eql 78 (.tmp 59) (.const (.pointer none)) x59 (.pointer none))) fun x60 =>
 gA (gB x55 false) (pA Try.prog (oBin .neq 4 (.tmp 58) (.tmp 60) x58 x60)) fun x61 =>
 pA Try.prog (oPick x55 (.bool true) x61) fun x62 =>
 gA (gB x62 false) (pA Try.prog (oMv x38)) fun x64 =>
 gA (gB x62 false) (pA Try.prog (oMv x0)) fun x65 =>
 gA (gB x62 false) (pA Try.prog (oBi .len #[29] 3 [false] [x65])) fun x66 =>
 gA (gB x62 false) (pA Try.prog (oSl 29 x64 none (some x66) none)) fun x67 =>
 gA (gB x62 false) (pL Try.prog (oConv 29 9 x67) w19) fun x68 =>
 gA (gB x62 false) (pA Try.prog (oMv x0)) fun x69 =>
 gA (gB x62 false) (pL Try.prog (oConv 29 9 x69) w19) fun x70 =>
 gA (gB x62 false) (pA Try.prog (oBin .neq 9 (.tmp 68) (.tmp 70) x68 x70)) fun x71 =>
 pA Try.prog (oPick x62 (.bool true) x71) fun x72 =>
 gA (gB x72 false) (pA Try.prog (oMv x38)) fun x74 =>
 gA (gB x72 false) (pA Try.prog (oMv x0)) fun x75 =>
 gA (gB x72 false) (pA Try.prog (oBi .len #[29] 3 [false] [x75])) fun x76 =>
 gA (gB x72 false) (pA Try.prog (oIdx 29 x74 x76)) fun x77 =>
 gA (gB x72 false) (pL Try.prog (oLoad 5 x77) w19) fun x78 =>
 gA (gB x72 false) (pA Try.prog (oBin .neq 5 (.tmp 78) (.const (.int .u8 153)) x78 (bv 153))) fun x79 =>
 pA Try.prog (oPick x72 (.bool true) x79) fun x80 =>
 pIf x80
 (Q (.bool false) w19)
 (pN Try.prog (oBin .eql 78 (.tmp 81) (.const (.pointer none)) x50 (.pointer none)) w19 fun x82 w20 =>
 pIf x82
 (pN Try.prog (oCall 41 []) w20 fun x83 w21 =>
 Q x83 w21)
 (pN Try.prog (oBi .len #[29] 3 [false] [x38]) w20 fun x85 w22 =>
 ∃ (L11 : Value → World → Prop) (m11 : Value → World → Nat),
 L11 (.int .i64 0) w22 ∧
 ∀ (_k11 : Env) (v86l11 : Value) (w23 : World), L11 v86l11 w23 →
 pN Try.prog (oBin .lss 3 (.tmp 86) (.tmp 85) v86l11 x85) w23 fun x87 w24 =>
 pIf x87
 (pN Try.prog (oIdx 29 x38 v86l11) w24 fun x91 w25 =>
 pN Try.prog (oStore 5 x91 (bv 90)) w25 fun _ w26 =>
 pN Try.prog (oBin .add 3 (.tmp 86) (.const (.int .i64 1)) v86l11 (.int .i64 1)) w26 fun x92 w27 =>
 (L11 x92 w27 ∧ m11 x92 w27 < m11 v86l11 w23))
 (pN Try.prog (oCall 45 [x1]) w24 fun x95 w28 =>
 pN Try.prog (oExt x95 0) w28 fun x96 w29 =>
 pN Try.prog (oExt x95 1) w29 fun x97 w30 =>
 pN Try.prog (oCall 46 [x1]) w30 fun x100 w31 =>
 pN Try.prog (oExt x100 0) w31 fun x101 w32 =>
 pN Try.prog (oExt x100 1) w32 fun _ w33 =>
 pN Try.prog (oCall 44 [x97]) w33 fun x104 w34 =>
 pN Try.prog (oBin .neq 3 (.tmp 104) (.const (.int .i64 0)) x104 (.int .i64 0)) w34 fun x105 w35 =>
 pGd (gB x105 false) (pN Try.prog (oMv x96) w35) w35 fun x107 w36 =>
 pGd (gB x105 false) (pN Try.prog (oBin .eql 34 (.tmp 107) (.const (.pointer none)) x107 (.pointer none)) w36) w36 fun x108 w37 =>
 pN Try.prog (oPick x105 (.bool true) x108) w37 fun x109 w38 =>
 pIf x109
 (Q (.bool false) w38)
 (pN Try.prog (oBi .len #[74] 3 [false] [x2]) w38 fun x111 w39 =>
 ∃ (L20 : Value → World → Prop) (m20 : Value → World → Nat),
 L20 (.int .i64 0) w39 ∧
 ∀ (_k20 : Env) (v112l20 : Value) (w40 : World), L20 v112l20 w40 →
 pN Try.prog (oBin .lss 3 (.tmp 112) (.tmp 111) v112l20 x111) w40 fun x113 w41 =>
 pIf x113
 (∃ I33 : World → Prop,
 (pN Try.prog (oIdx 74 x2 v112l20) w41 fun x114 w42 =>
 pN Try.prog (oLoad 87 x114) w42 fun x115 w43 =>
 pN Try.prog (oAlloc 87) w43 fun x18 w44 =>
 pN Try.prog (oStore 87 x18 x115) w44 fun _ w45 =>
 ∃ I31 : World → Prop,
 (pN Try.prog (oFld 87 x18 0) w45 fun x116 w46 =>
 pN Try.prog (oLoad 4 x116) w46 fun x117 w47 =>
 pIf x117
 (pN Try.prog (oFld 87 x18 2) w47 fun x120 w48 =>
 pN Try.prog (oLoad 3 x120) w48 fun x121 w49 =>
 pN Try.prog (oCall 47 [x45, x121]) w49 fun x122 w50 =>
 pN Try.prog (oExt x122 0) w50 fun x123 w51 =>
 pN Try.prog (oExt x122 1) w51 fun x124 w52 =>
 pN Try.prog (oFld 87 x18 2) w52 fun x127 w53 =>
 pN Try.prog (oLoad 3 x127) w53 fun x128 w54 =>
 pN Try.prog (oCall 48 [x50, x128]) w54 fun x129 w55 =>
 pN Try.prog (oExt x129 0) w55 fun x130 w56 =>
 pN Try.prog (oExt x129 1) w56 fun x131 w57 =>
 pN Try.prog (oBin .neq 26 (.tmp 132) (.tmp 133) x123 x130) w57 fun x134 w58 =>
 pGd (gB x134 false) (pN Try.prog (oMv x124) w58) w58 fun x136 w59 =>
 pGd (gB x134 false) (pN Try.prog (oCall 44 [x136]) w59) w59 fun x137 w60 =>
 pGd (gB x134 false) (pN Try.prog (oMv x131) w60) w60 fun x138 w61 =>
 pGd (gB x134 false) (pN Try.prog (oBin .neq 3 (.tmp 137) (.tmp 138) x137 x138) w61) w61 fun x139 w62 =>
 pN Try.prog (oPick x134 (.bool true) x139) w62 fun x140 w63 =>
 pIf x140
 (Q (.bool false) w63)
 (I31 w63))
 (pN Try.prog (oFld 87 x18 1) w47 fun x144 w64 =>
 pN Try.prog (oLoad 3 x144) w64 fun x145 w65 =>
 pN Try.prog (oCall 49 [x45, x96, x145]) w65 fun x146 w66 =>
 pN Try.prog (oExt x146 0) w66 fun x147 w67 =>
 pN Try.prog (oExt x146 1) w67 fun x148 w68 =>
 pN Try.prog (oFld 87 x18 1) w68 fun x152 w69 =>
 pN Try.prog (oLoad 3 x152) w69 fun x153 w70 =>
 pN Try.prog (oCall 50 [x50, x101, x153]) w70 fun x154 w71 =>
 pN Try.prog (oExt x154 0) w71 fun x155 w72 =>
 pN Try.prog (oExt x154 1) w72 fun x156 w73 =>
 pN Try.prog (oBin .neq 3 (.tmp 157) (.tmp 158) x147 x155) w73 fun x159 w74 =>
 pGd (gB x159 false) (pN Try.prog (oMv x148) w74) w74 fun x161 w75 =>
 pGd (gB x159 false) (pN Try.prog (oCall 44 [x161]) w75) w75 fun x162 w76 =>
 pGd (gB x159 false) (pN Try.prog (oMv x156) w76) w76 fun x163 w77 =>
 pGd (gB x159 false) (pN Try.prog (oBin .neq 3 (.tmp 162) (.tmp 163) x162 x163) w77) w77 fun x164 w78 =>
 pN Try.prog (oPick x159 (.bool true) x164) w78 fun x165 w79 =>
 pIf x165
 (Q (.bool false) w79)
 (I31 w79))) ∧
 ∀ (_j31 : Env) (w80 : World), I31 w80 →
 pN Try.prog (oCall 51 [x45]) w80 fun x167 w81 =>
 pN Try.prog (oCall 52 [x50]) w81 fun x169 w82 =>
 pN Try.prog (oBin .neq 3 (.tmp 167) (.tmp 169) x167 x169) w82 fun x170 w83 =>
 pGd (gB x170 false) (pN Try.prog (oMv x45) w83) w83 fun x172 w84 =>
 pGd (gB x170 false) (pN Try.prog (oCall 53 [x172]) w84) w84 fun x173 w85 =>
 pGd (gB x170 false) (pN Try.prog (oMv x50) w85) w85 fun x174 w86 =>
 pGd (gB x170 false) (pN Try.prog (oCall 54 [x174]) w86) w86 fun x175 w87 =>
 pGd (gB x170 false) (pN Try.prog (oBin .neq 4 (.tmp 173) (.tmp 175) x173 x175) w87) w87 fun x176 w88 =>
 pN Try.prog (oPick x170 (.bool true) x176) w88 fun x177 w89 =>
 pIf x177
 (Q (.bool false) w89)
 (I33 w89)) ∧
 ∀ (_j33 : Env) (w90 : World), I33 w90 →
 pN Try.prog (oBin .add 3 (.tmp 112) (.const (.int .i64 1)) v112l20 (.int .i64 1)) w90 fun x178 w91 =>
 (L20 x178 w91 ∧ m20 x178 w91 < m20 v112l20 w40))
 (pN Try.prog (oCall 55 [x96, x101, x1]) w41 fun x182 w92 =>
 pGd (gB x182 true) (pN Try.prog (oCall 41 []) w92) w92 fun x184 w93 =>
 pN Try.prog (oPick x182 x184 (.bool false)) w93 fun x185 w94 =>
 Q x185 w94)))))))
noncomputable def pithlaw08_RcdecExact.c : Code := match Try.f8.body with | some c => c | none => .skip
theorem pithlaw08_RcdecExact.eq [Pan] (x0 : Value) (x1 : Value) (x2 : Value) (w : World) (Q : Value → World → Prop) : cw Try.prog pithlaw08_RcdecExact.H pithlaw08_RcdecExact.c (endQ Try.prog Try.f8.results.toList Q) (argsE [x0, x1, x2]) w = pithlaw08_RcdecExact.F x0 x1 x2 w Q := by kernel_rfl
theorem pithlaw08_RcdecExact.calls [Pan] {x0 : Value} {x1 : Value} {x2 : Value} {w : World} {Q : Value → World → Prop} (h : pithlaw08_RcdecExact.F x0 x1 x2 w Q) : Calls Try.prog 8 #[x0, x1, x2] w (retP Q) :=
  calls_of_cw (H := pithlaw08_RcdecExact.H) (c := pithlaw08_RcdecExact.c) (args := [x0, x1, x2]) mixed Try.func8 (by kernel_rfl) (by kernel_rfl) (Nat.le_of_ble_eq_true (by kernel_rfl)) ((pithlaw08_RcdecExact.eq x0 x1 x2 w Q).mpr h)

/-! pithlaw08_RcdecBegins: pith/pithlaw08.RcdecBegins; temporaries: 0:b 1:cut 2:o 3:b 4:cut 5:o 7:n 8:asks 9:d 10:e 11:c 12:f 13:s 14:g 15:t 16:h 17:x 18:used 19:y 20:_ 21:i 22:a 23:was 24:_ 25:again 26:now 27:is 28:_ -/
def pithlaw08_RcdecBegins.H : Hints := { cut := fun  | _ => none, loop := fun | 21 => ([144], 182665403921164334152319068371262729095487684672) | _ => ([], 0), order := fun | 1 => [(0, 0), (1, 1), (2, 3), (3, 7), (4, 15), (5, 31)] | 23 => [(0, 0), (1, 1), (2, 3), (3, 7), (4, 15), (5, 31), (6, 63), (7, 127), (8, 255)] | _ => [] }
def pithlaw08_RcdecBegins.F [Pan] (x0 : Value) (x1 : Value) (x2 : Value) (w : World) (Q : Value → World → Prop) : Prop :=
 pN Try.prog (oBox 98 x2) w fun x5 w1 =>
 pDr w1 fun w2 =>
 pA Try.prog (oFld 98 x5 0) fun x29 =>
 pL Try.prog (oLoad 3 x29) w2 fun x30 =>
 pA Try.prog (oFld 98 x5 1) fun x31 =>
 pL Try.prog (oLoad 74 x31) w2 fun x32 =>
 pN Try.prog (oBin .lss 3 (.tmp 33) (.const (.int .i64 0)) x30 (.int .i64 0)) w2 fun x34 w3 =>
 pGd (gB x34 false) (pN Try.prog (oMv x30) w3) w3 fun x36 w4 =>
 pGd (gB x34 false) (pN Try.prog (oBin .gtr 3 (.tmp 36) (.const (.int .i64 64)) x36 (.int .i64 64)) w4) w4 fun x37 w5 =>
 pN Try.prog (oPick x34 (.bool true) x37) w5 fun x38 w6 =>
 pGd (gB x38 false) (pN Try.prog (oMv x1) w6) w6 fun x40 w7 =>
 pGd (gB x38 false) (pN Try.prog (oBin .lss 3 (.tmp 40) (.const (.int .i64 0)) x40 (.int .i64 0)) w7) w7 fun x41 w8 =>
 pN Try.prog (oPick x38 (.bool true) x41) w8 fun x42 w9 =>
 pGd (gB x42 false) (pN Try.prog (oMv x1) w9) w9 fun x44 w10 =>
 pGd (gB x42 false) (pN Try.prog (oMv x0) w10) w10 fun x45 w11 =>
 pGd (gB x42 false) (pN Try.prog (oBi .len #[29] 3 [false] [x45]) w11) w11 fun x46 w12 =>
 pGd (gB x42 false) (pN Try.prog (oBin .gtr 3 (.tmp 44) (.tmp 46) x44 x46) w12) w12 fun x47 w13 =>
 pN Try.prog (oPick x42 (.bool true) x47) w13 fun x48 w14 =>
 pIf x48
 (pN Try.prog (oCall 41 []) w14 fun x49 w15 =>
 Q x49 w15)
 (pN Try.prog (oCall 42 [x0]) w14 fun x52 w16 =>
 pN Try.prog (oExt x52 0) w16 fun x53 w17 =>
 pN Try.prog (oExt x52 1) w17 fun x54 w18 =>
 pN Try.prog (oSl 29 x0 none (some x1) none) w18 fun x58 w19 =>
 pN Try.prog (oCall 42 [x58]) w19 fun x59 w20 =>
 pN Try.prog (oExt x59 0) w20 fun x60 w21 =>
 pN Try.prog (oExt x59 1) w21 fun x61 w22 =>
 pN Try.prog (oCall 44 [x61]) w22 fun x63 w23 =>
 pN Try.prog (oBin .eql 3 (.tmp 63) (.const (.int .i64 1)) x63 (.int .i64 1)) w23 fun x64 w24 =>
 pIf x64
 (pN Try.prog (oBin .lss 3 (.tmp 65) (.const (.int .i64 5)) x1 (.int .i64 5)) w24 fun x66 w25 =>
 pGd (gB x66 true) (pN Try.prog (oMv x60) w25) w25 fun x68 w26 =>
 pGd (gB x66 true) (pN Try.prog (oBin .eql 75 (.tmp 68) (.const (.pointer none)) x68 (.pointer none)) w26) w26 fun x69 w27 =>
 pN Try.prog (oPick x66 x69 (.bool false)) w27 fun x70 w28 =>
 Q x70 w28)
 (pN Try.prog (oCall 44 [x54]) w24 fun x72 w29 =>
 pN Try.prog (oCall 44 [x61]) w29 fun x74 w30 =>
 pN Try.prog (oBin .neq 3 (.tmp 72) (.tmp 74) x72 x74) w30 fun x75 w31 =>
 pGd (gB x75 false) (pN Try.prog (oMv x60) w31) w31 fun x77 w32 =>
 pGd (gB x75 false) (pN Try.prog (oBin .eql 75 (.tmp 77) (.const (.pointer none)) x77 (.pointer none)) w32) w32 fun x78 w33 =>
 pGd (gB x75 false) (pN Try.prog (oMv x61) w33) w33 fun x79 w34 =>
 pGd (gB x75 false) (pN Try.prog (oCall 44 [x79]) w34) w34 fun x80 w35 =>
 pGd (gB x75 false) (pN Try.prog (oBin .neq 3 (.tmp 80) (.const (.int .i64 0)) x80 (.int .i64 0)) w35) w35 fun x81 w36 =>
 pGd (gB x75 false) (pN Try.prog (oBin .neq 4 (.tmp 78) (.tmp 81) x78 x81) w36) w36 fun x82 w37 =>
 pN Try.prog (oPick x75 (.bool true) x82) w37 fun x83 w38 =>
 pIf x83
 (Q (.bool false) w38)
 (pN Try.prog (oBin .eql 75 (.tmp 84) (.const (.pointer none)) x60 (.pointer none)) w38 fun x85 w39 =>
 pGd (gB x85 false) (pN Try.prog (oMv x53) w39) w39 fun x87 w40 =>
 pGd (gB x85 false) (pN Try.prog (oBin .eql 75 (.tmp 87) (.const (.pointer none)) x87 (.pointer none)) w40) w40 fun x88 w41 =>
 pN Try.prog (oPick x85 (.bool true) x88) w41 fun x89 w42 =>
 pIf x89
 (pN Try.prog (oCall 44 [x61]) w42 fun x91 w43 =>
 pN Try.prog (oBin .eql 3 (.tmp 91) (.const (.int .i64 2)) x91 (.int .i64 2)) w43 fun x92 w44 =>
 pGd (gB x92 true) (pN Try.prog (oMv x0) w44) w44 fun x94 w45 =>
 pGd (gB x92 true) (pN Try.prog (oIdx 29 x94 (.int .i64 0)) w45) w45 fun x95 w46 =>
 pGd (gB x92 true) (pN Try.prog (oLoad 5 x95) w46) w46 fun x96 w47 =>
 pGd (gB x92 true) (pN Try.prog (oBin .neq 5 (.tmp 96) (.const (.int .u8 0)) x96 (bv 0)) w47) w47 fun x97 w48 =>
 pGd (gB x92 true) (pN Try.prog (oMv x97) w48) w48 fun x98 w49 =>
 pGd (gB x98 false) (pN Try.prog (oMv x0) w49) w49 fun x99 w50 =>
 pGd (gB x98 false) (pN Try.prog (oIdx 29 x99 (.int .i64 1)) w50) w50 fun x100 w51 =>
 pGd (gB x98 false) (pN Try.prog (oLoad 5 x100) w51) w51 fun x101 w52 =>
 pGd (gB x98 false) (pN Try.prog (oBin .eql 5 (.tmp 101) (.const (.int .u8 255)) x101 (bv 255)) w52) w52 fun x102 w53 =>
 pGd (gB x92 true) (pN Try.prog (oPick x98 (.bool true) x102) w53) w53 fun x103 w54 =>
 pN Try.prog (oPick x92 x103 (.bool false)) w54 fun x104 w55 =>
 Q x104 w55)
 (pN Try.prog (oCall 45 [x30]) w42 fun x107 w56 =>
 pN Try.prog (oExt x107 0) w56 fun x108 w57 =>
 pN Try.prog (oExt x107 1) w57 fun x109 w58 =>
 pN Try.prog (oCall 45 [x30]) w58 fun x112 w59 =>
 pN Try.prog (oExt x112 0) w59 fun x113 w60 =>
 pN Try.prog (oExt x112 1) w60 fun x114 w61 =>
 pN Try.prog (oCall 44 [x109]) w61 fun x116 w62 =>
 pN Try.prog (oBin .neq 3 (.tmp 116) (.const (.int .i64 0)) x116 (.int .i64 0)) w62 fun x117 w63 =>
 pGd (gB x117 false) (pN Try.prog (oMv x114) w63) w63 fun x119 w64 =>
 pGd (gB x117 false) (pN Try.prog (oCall 44 [x119]) w64) w64 fun x120 w65 =>
 pGd (gB x117 false) (pN Try.prog (oBin .neq 3 (.tmp 120) (.const (.int .i64 0)) x120 (.int .i64 0)) w65) w65 fun x121 w66 =>
 pN Try.prog (oPick x117 (.bool true) x121) w66 fun x122 w67 =>
 pIf x122
 (Q (.bool false) w67)
 (pN Try.prog (oCall 56 [x60, x113, x32]) w67 fun x127 w68 =>
 pN Try.prog (oExt x127 0) w68 fun x128 w69 =>
 pN Try.prog (oExt x127 1) w69 fun x129 w70 =>
 pN Try.prog (oCall 56 [x53, x108, x32]) w70 fun x134 w71 =>
 pN Try.prog (oExt x134 0) w71 fun x135 w72 =>
 pN Try.prog (oExt x134 1) w72 fun _ w73 =>
 pN Try.prog (oBi .len #[22] 3 [false] [x128]) w73 fun x138 w74 =>
 pN Try.prog (oBi .len #[22] 3 [false] [x135]) w74 fun x140 w75 =>
 pN Try.prog (oBin .gtr 3 (.tmp 138) (.tmp 140) x138 x140) w75 fun x141 w76 =>
 pIf x141
 (Q (.bool false) w76)
 (pN Try.prog (oBi .len #[22] 3 [false] [x128]) w76 fun x143 w77 =>
 ∃ (L21 : Value → World → Prop) (m21 : Value → World → Nat),
 L21 (.int .i64 0) w77 ∧
 ∀ (_k21 : Env) (v144l21 : Value) (w78 : World), L21 v144l21 w78 →
 pN Try.prog (oBin .lss 3 (.tmp 144) (.tmp 143) v144l21 x143) w78 fun x145 w79 =>
 pIf x145
 (pDr w79 fun w80 =>
 pA Try.prog (oIdx 22 x128 v144l21) fun x149 =>
 pL Try.prog (oLoad 26 x149) w80 fun x150 =>
 pA Try.prog (oIdx 22 x135 v144l21) fun x153 =>
 pL Try.prog (oLoad 26 x153) w80 fun x154 =>
 pA Try.prog (oBin .neq 26 (.tmp 150) (.tmp 154) x150 x154) fun x155 =>
 pIf x155
 (Q (.bool false) w80)
 (pN Try.prog (oBin .add 3 (.tmp 144) (.const (.int .i64 1)) v144l21 (.int .i64 1)) w80 fun x156 w81 =>
 (L21 x156 w81 ∧ m21 x156 w81 < m21 v144l21 w78)))
 (pN Try.prog (oBi .len #[22] 3 [false] [x128]) w79 fun x158 w82 =>
 pN Try.prog (oBi .len #[74] 3 [false] [x32]) w82 fun x160 w83 =>
 pN Try.prog (oBin .eql 3 (.tmp 158) (.tmp 160) x158 x160) w83 fun x161 w84 =>
 pIf x161
 (Q (.bool true) w84)
 (pN Try.prog (oBi .len #[22] 3 [false] [x128]) w84 fun x164 w85 =>
 pN Try.prog (oIdx 74 x32 x164) w85 fun x165 w86 =>
 pN Try.prog (oLoad 87 x165) w86 fun x166 w87 =>
 pN Try.prog (oAlloc 87) w87 fun x22 w88 =>
 pN Try.prog (oStore 87 x22 x166) w88 fun _ w89 =>
 pN Try.prog (oFld 87 x22 1) w89 fun x169 w90 =>
 pN Try.prog (oLoad 3 x169) w90 fun x170 w91 =>
 pN Try.prog (oCall 28 [x113, x170]) w91 fun x171 w92 =>
 pN Try.prog (oExt x171 0) w92 fun x172 w93 =>
 pN Try.prog (oExt x171 1) w93 fun _ w94 =>
 pN Try.prog (oLoad 87 x22) w94 fun x177 w95 =>
 pN Try.prog (oBs 74 1 [(0, x177)]) w95 fun x178 w96 =>
 pN Try.prog (oCall 56 [x60, x113, x178]) w96 fun x179 w97 =>
 pN Try.prog (oExt x179 0) w97 fun x180 w98 =>
 pN Try.prog (oExt x179 1) w98 fun x181 w99 =>
 pN Try.prog (oFld 87 x22 1) w99 fun x184 w100 =>
 pN Try.prog (oLoad 3 x184) w100 fun x185 w101 =>
 pN Try.prog (oCall 28 [x113, x185]) w101 fun x186 w102 =>
 pN Try.prog (oExt x186 0) w102 fun x187 w103 =>
 pN Try.prog (oExt x186 1) w103 fun _ w104 =>
 pN Try.prog (oBi .len #[22] 3 [false] [x180]) w104 fun x190 w105 =>
 pN Try.prog (oBin .eql 3 (.tmp 190) (.const (.int .i64 0)) x190 (.int .i64 0)) w105 fun x191 w106 =>
 pGd (gB x191 true) (pN Try.prog (oMv x181) w106) w106 fun x193 w107 =>
 pGd (gB x191 true) (pN Try.prog (oMv x129) w107) w107 fun x194 w108 =>
 pGd (gB x191 true) (pN Try.prog (oBin .eql 3 (.tmp 193) (.tmp 194) x193 x194) w108) w108 fun x195 w109 =>
 pN Try.prog (oPick x191 x195 (.bool false)) w109 fun x196 w110 =>
 pGd (gB x196 true) (pN Try.prog (oMv x172) w110) w110 fun x198 w111 =>
 pGd (gB x196 true) (pN Try.prog (oMv x187) w111) w111 fun x199 w112 =>
 pGd (gB x196 true) (pN Try.prog (oBin .eql 3 (.tmp 198) (.tmp 199) x198 x199) w112) w112 fun x200 w113 =>
 pN Try.prog (oPick x196 x200 (.bool false)) w113 fun x201 w114 =>
 pGd (gB x201 true) (pN Try.prog (oMv x129) w114) w114 fun x203 w115 =>
 pGd (gB x201 true) (pN Try.prog (oMv x1) w115) w115 fun x204 w116 =>
 pGd (gB x201 true) (pN Try.prog (oBin .leq 3 (.tmp 203) (.tmp 204) x203 x204) w116) w116 fun x205 w117 =>
 pN Try.prog (oPick x201 x205 (.bool false)) w117 fun x206 w118 =>
 Q x206 w118))))))))
noncomputable def pithlaw08_RcdecBegins.c : Code := match Try.f9.body with | some c => c | none => .skip
theorem pithlaw08_RcdecBegins.eq [Pan] (x0 : Value) (x1 : Value) (x2 : Value) (w : World) (Q : Value → World → Prop) : cw Try.prog pithlaw08_RcdecBegins.H pithlaw08_RcdecBegins.c (endQ Try.prog Try.f9.results.toList Q) (argsE [x0, x1, x2]) w = pithlaw08_RcdecBegins.F x0 x1 x2 w Q := by kernel_rfl
theorem pithlaw08_RcdecBegins.calls [Pan] {x0 : Value} {x1 : Value} {x2 : Value} {w : World} {Q : Value → World → Prop} (h : pithlaw08_RcdecBegins.F x0 x1 x2 w Q) : Calls Try.prog 9 #[x0, x1, x2] w (retP Q) :=
  calls_of_cw (H := pithlaw08_RcdecBegins.H) (c := pithlaw08_RcdecBegins.c) (args := [x0, x1, x2]) mixed Try.func9 (by kernel_rfl) (by kernel_rfl) (Nat.le_of_ble_eq_true (by kernel_rfl)) ((pithlaw08_RcdecBegins.eq x0 x1 x2 w Q).mpr h)

/-! pithlaw08_RcdecApart: pith/pithlaw08.RcdecApart; temporaries: 0:b 1:o 2:turns 3:b 4:o 5:turns 7:n 8:asks 9:own 10:one 11:e 12:two 13:f 14:alone 15:g 16:i 17:s 18:_ 19:t 20:_ 21:u 22:_ 23:want 24:_ 25:x 26:y 27:_ 28:first 29:v 30:_ 31:v 32:_ 33:i 34:i 35:done 36:_ 37:first -/
def pithlaw08_RcdecApart.H : Hints := { cut := fun | 30 => some ([25], 23384024803497871783095010977478136273973970731008) | 33 => some ([25, 26], 784637716923334747030329950859971715517196420435777945600) | 52 => some ([35], 835758346681669833634677467697608550882751477098757746914383716417536) | _ => none, loop := fun | 13 => ([95], 5030988319655785437190040911872) | 25 => ([25, 26, 136], 1569275433846670103846661424041669957401689358591768657920) | 35 => ([192], 51415740314552302136578951165493995614294393445604915285065792) | 41 => ([207], 1684790978627249836411419071790907248289198684425581582603236933696) | 48 => ([35, 222], 1718696600030853286910022211797501455444367956936961495670526952079360) | _ => ([], 0), order := fun | 1 => [(0, 0), (1, 1), (2, 3), (3, 7), (4, 15), (5, 31)] | 37 => [(0, 0), (1, 1), (2, 3), (3, 7), (4, 15), (5, 31), (6, 63), (7, 127), (8, 255)] | 43 => [(0, 0), (1, 1), (2, 3), (3, 7), (4, 15), (5, 31), (6, 63), (7, 127), (8, 255)] | _ => [] }
def pithlaw08_RcdecApart.F [Pan] (x0 : Value) (x1 : Value) (x2 : Value) (w : World) (Q : Value → World → Prop) : Prop :=
 pN Try.prog (oBox 98 x1) w fun x4 w1 =>
 pDr w1 fun w2 =>
 pA Try.prog (oFld 98 x4 0) fun x38 =>
 pL Try.prog (oLoad 3 x38) w2 fun x39 =>
 pA Try.prog (oFld 98 x4 1) fun x40 =>
 pL Try.prog (oLoad 74 x40) w2 fun x41 =>
 pN Try.prog (oBin .lss 3 (.tmp 42) (.const (.int .i64 0)) x39 (.int .i64 0)) w2 fun x43 w3 =>
 pGd (gB x43 false) (pN Try.prog (oMv x39) w3) w3 fun x45 w4 =>
 pGd (gB x43 false) (pN Try.prog (oBin .gtr 3 (.tmp 45) (.const (.int .i64 64)) x45 (.int .i64 64)) w4) w4 fun x46 w5 =>
 pN Try.prog (oPick x43 (.bool true) x46) w5 fun x47 w6 =>
 pIf x47
 (pN Try.prog (oCall 41 []) w6 fun x48 w7 =>
 Q x48 w7)
 (pN Try.prog (oBs 29 0 []) w6 fun x49 w8 =>
 pN Try.prog (oBi .append #[29, 29] 29 [false, false] [x49, x0]) w8 fun x51 w9 =>
 pN Try.prog (oCall 42 [x51]) w9 fun x54 w10 =>
 pN Try.prog (oExt x54 0) w10 fun x55 w11 =>
 pN Try.prog (oExt x54 1) w11 fun x56 w12 =>
 pN Try.prog (oCall 42 [x51]) w12 fun x59 w13 =>
 pN Try.prog (oExt x59 0) w13 fun x60 w14 =>
 pN Try.prog (oExt x59 1) w14 fun x61 w15 =>
 pN Try.prog (oBs 29 0 []) w15 fun x63 w16 =>
 pN Try.prog (oBi .append #[29, 29] 29 [false, false] [x63, x0]) w16 fun x65 w17 =>
 pN Try.prog (oCall 42 [x65]) w17 fun x66 w18 =>
 pN Try.prog (oExt x66 0) w18 fun x67 w19 =>
 pN Try.prog (oExt x66 1) w19 fun x68 w20 =>
 pN Try.prog (oCall 44 [x56]) w20 fun x70 w21 =>
 pN Try.prog (oCall 44 [x61]) w21 fun x72 w22 =>
 pN Try.prog (oBin .neq 3 (.tmp 70) (.tmp 72) x70 x72) w22 fun x73 w23 =>
 pGd (gB x73 false) (pN Try.prog (oMv x56) w23) w23 fun x75 w24 =>
 pGd (gB x73 false) (pN Try.prog (oCall 44 [x75]) w24) w24 fun x76 w25 =>
 pGd (gB x73 false) (pN Try.prog (oMv x68) w25) w25 fun x77 w26 =>
 pGd (gB x73 false) (pN Try.prog (oCall 44 [x77]) w26) w26 fun x78 w27 =>
 pGd (gB x73 false) (pN Try.prog (oBin .neq 3 (.tmp 76) (.tmp 78) x76 x78) w27) w27 fun x79 w28 =>
 pN Try.prog (oPick x73 (.bool true) x79) w28 fun x80 w29 =>
 pIf x80
 (Q (.bool false) w29)
 (pN Try.prog (oCall 44 [x56]) w29 fun x82 w30 =>
 pN Try.prog (oBin .neq 3 (.tmp 82) (.const (.int .i64 0)) x82 (.int .i64 0)) w30 fun x83 w31 =>
 pIf x83
 (pN Try.prog (oBin .eql 75 (.tmp 84) (.const (.pointer none)) x55 (.pointer none)) w31 fun x85 w32 =>
 pGd (gB x85 true) (pN Try.prog (oMv x60) w32) w32 fun x87 w33 =>
 pGd (gB x85 true) (pN Try.prog (oBin .eql 75 (.tmp 87) (.const (.pointer none)) x87 (.pointer none)) w33) w33 fun x88 w34 =>
 pN Try.prog (oPick x85 x88 (.bool false)) w34 fun x89 w35 =>
 pGd (gB x89 true) (pN Try.prog (oCall 41 []) w35) w35 fun x91 w36 =>
 pN Try.prog (oPick x89 x91 (.bool false)) w36 fun x92 w37 =>
 Q x92 w37)
 (pN Try.prog (oBi .len #[29] 3 [false] [x51]) w31 fun x94 w38 =>
 ∃ (L13 : Value → World → Prop) (m13 : Value → World → Nat),
 L13 (.int .i64 0) w38 ∧
 ∀ (_k13 : Env) (v95l13 : Value) (w39 : World), L13 v95l13 w39 →
 pN Try.prog (oBin .lss 3 (.tmp 95) (.tmp 94) v95l13 x94) w39 fun x96 w40 =>
 pIf x96
 (pN Try.prog (oIdx 29 x51 v95l13) w40 fun x100 w41 =>
 pN Try.prog (oStore 5 x100 (bv 119)) w41 fun _ w42 =>
 pN Try.prog (oBin .add 3 (.tmp 95) (.const (.int .i64 1)) v95l13 (.int .i64 1)) w42 fun x101 w43 =>
 (L13 x101 w43 ∧ m13 x101 w43 < m13 v95l13 w39))
 (pN Try.prog (oCall 45 [x39]) w40 fun x104 w44 =>
 pN Try.prog (oExt x104 0) w44 fun x105 w45 =>
 pN Try.prog (oExt x104 1) w45 fun _ w46 =>
 pN Try.prog (oCall 45 [x39]) w46 fun x109 w47 =>
 pN Try.prog (oExt x109 0) w47 fun x110 w48 =>
 pN Try.prog (oExt x109 1) w48 fun _ w49 =>
 pN Try.prog (oCall 45 [x39]) w49 fun x114 w50 =>
 pN Try.prog (oExt x114 0) w50 fun x115 w51 =>
 pN Try.prog (oExt x114 1) w51 fun _ w52 =>
 pN Try.prog (oBin .eql 34 (.tmp 117) (.const (.pointer none)) x105 (.pointer none)) w52 fun x118 w53 =>
 pGd (gB x118 false) (pN Try.prog (oMv x110) w53) w53 fun x120 w54 =>
 pGd (gB x118 false) (pN Try.prog (oBin .eql 34 (.tmp 120) (.const (.pointer none)) x120 (.pointer none)) w54) w54 fun x121 w55 =>
 pN Try.prog (oPick x118 (.bool true) x121) w55 fun x122 w56 =>
 pGd (gB x122 false) (pN Try.prog (oMv x115) w56) w56 fun x124 w57 =>
 pGd (gB x122 false) (pN Try.prog (oBin .eql 34 (.tmp 124) (.const (.pointer none)) x124 (.pointer none)) w57) w57 fun x125 w58 =>
 pN Try.prog (oPick x122 (.bool true) x125) w58 fun x126 w59 =>
 pIf x126
 (Q (.bool false) w59)
 (pN Try.prog (oCall 56 [x67, x115, x41]) w59 fun x131 w60 =>
 pN Try.prog (oExt x131 0) w60 fun x132 w61 =>
 pN Try.prog (oExt x131 1) w61 fun _ w62 =>
 pN Try.prog (oBi .len #[102] 3 [false] [x2]) w62 fun x135 w63 =>
 ∃ (L25 : Value → Value → Value → World → Prop) (m25 : Value → Value → Value → World → Nat),
 L25 (.slice none 0 0) (.slice none 0 0) (.int .i64 0) w63 ∧
 ∀ (_k25 : Env) (x25l25 : Value) (y26l25 : Value) (v136l25 : Value) (w64 : World), L25 x25l25 y26l25 v136l25 w64 →
 pN Try.prog (oBin .lss 3 (.tmp 136) (.tmp 135) v136l25 x135) w64 fun x137 w65 =>
 pIf x137
 (∃ I33 : Value → Value → World → Prop,
 (pN Try.prog (oIdx 102 x2 v136l25) w65 fun x138 w66 =>
 pN Try.prog (oLoad 4 x138) w66 fun x139 w67 =>
 ∃ I30 : Value → World → Prop,
 (pGd (gB x139 true) (pN Try.prog (oMv x25l25) w67) w67 fun x142 w68 =>
 pGd (gB x139 true) (pN Try.prog (oBi .len #[22] 3 [false] [x142]) w68) w68 fun x143 w69 =>
 pGd (gB x139 true) (pN Try.prog (oMv x132) w69) w69 fun x144 w70 =>
 pGd (gB x139 true) (pN Try.prog (oBi .len #[22] 3 [false] [x144]) w70) w70 fun x145 w71 =>
 pGd (gB x139 true) (pN Try.prog (oBin .lss 3 (.tmp 143) (.tmp 145) x143 x145) w71) w71 fun x146 w72 =>
 pN Try.prog (oPick x139 x146 (.bool false)) w72 fun x147 w73 =>
 pIf x147
 (pN Try.prog (oBi .len #[22] 3 [false] [x25l25]) w73 fun x153 w74 =>
 pN Try.prog (oBi .len #[22] 3 [false] [x25l25]) w74 fun x155 w75 =>
 pN Try.prog (oBin .add 3 (.tmp 155) (.const (.int .i64 1)) x155 (.int .i64 1)) w75 fun x156 w76 =>
 pN Try.prog (oSl 74 x41 (some x153) (some x156) none) w76 fun x157 w77 =>
 pN Try.prog (oCall 56 [x55, x105, x157]) w77 fun x158 w78 =>
 pN Try.prog (oExt x158 0) w78 fun x159 w79 =>
 pN Try.prog (oExt x158 1) w79 fun _ w80 =>
 pN Try.prog (oBi .append #[22, 22] 22 [false, false] [x25l25, x159]) w80 fun x163 w81 =>
 I30 x163 w81)
 (I30 x25l25 w73)) ∧
 ∀ (_j30 : Env) (x25c30 : Value) (w82 : World), I30 x25c30 w82 →
 pN Try.prog (oUn .not x139) w82 fun x165 w83 =>
 pGd (gB x165 true) (pN Try.prog (oMv y26l25) w83) w83 fun x167 w84 =>
 pGd (gB x165 true) (pN Try.prog (oBi .len #[22] 3 [false] [x167]) w84) w84 fun x168 w85 =>
 pGd (gB x165 true) (pN Try.prog (oMv x132) w85) w85 fun x169 w86 =>
 pGd (gB x165 true) (pN Try.prog (oBi .len #[22] 3 [false] [x169]) w86) w86 fun x170 w87 =>
 pGd (gB x165 true) (pN Try.prog (oBin .lss 3 (.tmp 168) (.tmp 170) x168 x170) w87) w87 fun x171 w88 =>
 pN Try.prog (oPick x165 x171 (.bool false)) w88 fun x172 w89 =>
 pIf x172
 (pN Try.prog (oBi .len #[22] 3 [false] [y26l25]) w89 fun x178 w90 =>
 pN Try.prog (oBi .len #[22] 3 [false] [y26l25]) w90 fun x180 w91 =>
 pN Try.prog (oBin .add 3 (.tmp 180) (.const (.int .i64 1)) x180 (.int .i64 1)) w91 fun x181 w92 =>
 pN Try.prog (oSl 74 x41 (some x178) (some x181) none) w92 fun x182 w93 =>
 pN Try.prog (oCall 56 [x60, x110, x182]) w93 fun x183 w94 =>
 pN Try.prog (oExt x183 0) w94 fun x184 w95 =>
 pN Try.prog (oExt x183 1) w95 fun _ w96 =>
 pN Try.prog (oBi .append #[22, 22] 22 [false, false] [y26l25, x184]) w96 fun x188 w97 =>
 I33 x25c30 x188 w97)
 (I33 x25c30 y26l25 w89)) ∧
 ∀ (_j33 : Env) (x25c33 : Value) (y26c33 : Value) (w98 : World), I33 x25c33 y26c33 w98 →
 pN Try.prog (oBin .add 3 (.tmp 136) (.const (.int .i64 1)) v136l25 (.int .i64 1)) w98 fun x189 w99 =>
 (L25 x25c33 y26c33 x189 w99 ∧ m25 x25c33 y26c33 x189 w99 < m25 x25l25 y26l25 v136l25 w64))
 (pN Try.prog (oBi .len #[22] 3 [false] [x25l25]) w65 fun x191 w100 =>
 ∃ (L35 : Value → World → Prop) (m35 : Value → World → Nat),
 L35 (.int .i64 0) w100 ∧
 ∀ (_k35 : Env) (v192l35 : Value) (w101 : World), L35 v192l35 w101 →
 pN Try.prog (oBin .lss 3 (.tmp 192) (.tmp 191) v192l35 x191) w101 fun x193 w102 =>
 pIf x193
 (pDr w102 fun w103 =>
 pA Try.prog (oIdx 22 x25l25 v192l35) fun x197 =>
 pL Try.prog (oLoad 26 x197) w103 fun x198 =>
 pA Try.prog (oIdx 22 x132 v192l35) fun x201 =>
 pL Try.prog (oLoad 26 x201) w103 fun x202 =>
 pA Try.prog (oBin .neq 26 (.tmp 198) (.tmp 202) x198 x202) fun x203 =>
 pIf x203
 (Q (.bool false) w103)
 (pN Try.prog (oBin .add 3 (.tmp 192) (.const (.int .i64 1)) v192l35 (.int .i64 1)) w103 fun x204 w104 =>
 (L35 x204 w104 ∧ m35 x204 w104 < m35 v192l35 w101)))
 (pN Try.prog (oBi .len #[22] 3 [false] [y26l25]) w102 fun x206 w105 =>
 ∃ (L41 : Value → World → Prop) (m41 : Value → World → Nat),
 L41 (.int .i64 0) w105 ∧
 ∀ (_k41 : Env) (v207l41 : Value) (w106 : World), L41 v207l41 w106 →
 pN Try.prog (oBin .lss 3 (.tmp 207) (.tmp 206) v207l41 x206) w106 fun x208 w107 =>
 pIf x208
 (pDr w107 fun w108 =>
 pA Try.prog (oIdx 22 y26l25 v207l41) fun x212 =>
 pL Try.prog (oLoad 26 x212) w108 fun x213 =>
 pA Try.prog (oIdx 22 x132 v207l41) fun x216 =>
 pL Try.prog (oLoad 26 x216) w108 fun x217 =>
 pA Try.prog (oBin .neq 26 (.tmp 213) (.tmp 217) x213 x217) fun x218 =>
 pIf x218
 (Q (.bool false) w108)
 (pN Try.prog (oBin .add 3 (.tmp 207) (.const (.int .i64 1)) v207l41 (.int .i64 1)) w108 fun x219 w109 =>
 (L41 x219 w109 ∧ m41 x219 w109 < m41 v207l41 w106)))
 (pN Try.prog (oBi .len #[102] 3 [false] [x2]) w107 fun x221 w110 =>
 ∃ (L48 : Value → Value → World → Prop) (m48 : Value → Value → World → Nat),
 L48 (.int .i64 0) (.int .i64 0) w110 ∧
 ∀ (_k48 : Env) (done35l48 : Value) (v222l48 : Value) (w111 : World), L48 done35l48 v222l48 w111 →
 pN Try.prog (oBin .lss 3 (.tmp 222) (.tmp 221) v222l48 x221) w111 fun x223 w112 =>
 pIf x223
 (∃ I52 : Value → World → Prop,
 (pN Try.prog (oIdx 102 x2 v222l48) w112 fun x224 w113 =>
 pN Try.prog (oLoad 4 x224) w113 fun x225 w114 =>
 pIf x225
 (pN Try.prog (oBin .add 3 (.tmp 227) (.const (.int .i64 1)) done35l48 (.int .i64 1)) w114 fun x228 w115 =>
 I52 x228 w115)
 (I52 done35l48 w114)) ∧
 ∀ (_j52 : Env) (done35c52 : Value) (w116 : World), I52 done35c52 w116 →
 pN Try.prog (oBin .add 3 (.tmp 222) (.const (.int .i64 1)) v222l48 (.int .i64 1)) w116 fun x229 w117 =>
 (L48 done35c52 x229 w117 ∧ m48 done35c52 x229 w117 < m48 done35l48 v222l48 w111))
 (pN Try.prog (oBi .len #[22] 3 [false] [x25l25]) w112 fun x231 w118 =>
 pN Try.prog (oBi .len #[22] 3 [false] [x132]) w118 fun x234 w119 =>
 pN Try.prog (oBi .min #[3, 3] 3 [false, false] [done35l48, x234]) w119 fun x235 w120 =>
 pN Try.prog (oBin .eql 3 (.tmp 231) (.tmp 235) x231 x235) w120 fun x236 w121 =>
 pGd (gB x236 true) (pN Try.prog (oMv y26l25) w121) w121 fun x238 w122 =>
 pGd (gB x236 true) (pN Try.prog (oBi .len #[22] 3 [false] [x238]) w122) w122 fun x239 w123 =>
 pGd (gB x236 true) (pN Try.prog (oMv x2) w123) w123 fun x240 w124 =>
 pGd (gB x236 true) (pN Try.prog (oBi .len #[102] 3 [false] [x240]) w124) w124 fun x241 w125 =>
 pGd (gB x236 true) (pN Try.prog (oMv done35l48) w125) w125 fun x242 w126 =>
 pGd (gB x236 true) (pN Try.prog (oBin .sub 3 (.tmp 241) (.tmp 242) x241 x242) w126) w126 fun x243 w127 =>
 pGd (gB x236 true) (pN Try.prog (oMv x132) w127) w127 fun x244 w128 =>
 pGd (gB x236 true) (pN Try.prog (oBi .len #[22] 3 [false] [x244]) w128) w128 fun x245 w129 =>
 pGd (gB x236 true) (pN Try.prog (oBi .min #[3, 3] 3 [false, false] [x243, x245]) w129) w129 fun x246 w130 =>
 pGd (gB x236 true) (pN Try.prog (oBin .eql 3 (.tmp 239) (.tmp 246) x239 x246) w130) w130 fun x247 w131 =>
 pN Try.prog (oPick x236 x247 (.bool false)) w131 fun x248 w132 =>
 Q x248 w132)))))))))
noncomputable def pithlaw08_RcdecApart.c : Code := match Try.f10.body with | some c => c | none => .skip
theorem pithlaw08_RcdecApart.eq [Pan] (x0 : Value) (x1 : Value) (x2 : Value) (w : World) (Q : Value → World → Prop) : cw Try.prog pithlaw08_RcdecApart.H pithlaw08_RcdecApart.c (endQ Try.prog Try.f10.results.toList Q) (argsE [x0, x1, x2]) w = pithlaw08_RcdecApart.F x0 x1 x2 w Q := by kernel_rfl
theorem pithlaw08_RcdecApart.calls [Pan] {x0 : Value} {x1 : Value} {x2 : Value} {w : World} {Q : Value → World → Prop} (h : pithlaw08_RcdecApart.F x0 x1 x2 w Q) : Calls Try.prog 10 #[x0, x1, x2] w (retP Q) :=
  calls_of_cw (H := pithlaw08_RcdecApart.H) (c := pithlaw08_RcdecApart.c) (args := [x0, x1, x2]) mixed Try.func10 (by kernel_rfl) (by kernel_rfl) (Nat.le_of_ble_eq_true (by kernel_rfl)) ((pithlaw08_RcdecApart.eq x0 x1 x2 w Q).mpr h)

/-! pithlaw08_RcdecBack: pith/pithlaw08.RcdecBack; temporaries: 0:n 1:asks 2:tail 3:n 4:asks 5:tail 7:b 8:l 9:s 10:_ 11:more 12:d 13:e 14:t 15:f 16:_ 17:a 18:v 19:bits 20:g 21:bit 22:h 23:i 24:p 25:g 26:q 27:h -/
def pithlaw08_RcdecBack.H : Hints := { cut := fun | 23 => some ([18, 19, 20], 20769182482379153372600885728509952) | 25 => some ([], 42535295863879367893636445654080159808) | _ => none, loop := fun | 7 => ([52], 3064991081731777716716694054300618367232974645008201792) | 14 => ([88], 85070591729925130856022306789225529408) | 29 => ([23], 1532495539438641165652387146092023214169243986060902464) | _ => ([], 0), order := fun  | _ => [] }
def pithlaw08_RcdecBack.F [Pan] (x0 : Value) (x1 : Value) (x2 : Value) (w : World) (Q : Value → World → Prop) : Prop :=
 pN Try.prog (oBin .lss 3 (.tmp 28) (.const (.int .i64 0)) x0 (.int .i64 0)) w fun x29 w1 =>
 pGd (gB x29 false) (pN Try.prog (oMv x0) w1) w1 fun x31 w2 =>
 pGd (gB x29 false) (pN Try.prog (oBin .gtr 3 (.tmp 31) (.const (.int .i64 64)) x31 (.int .i64 64)) w2) w2 fun x32 w3 =>
 pN Try.prog (oPick x29 (.bool true) x32) w3 fun x33 w4 =>
 pIf x33
 (pN Try.prog (oCall 41 []) w4 fun x34 w5 =>
 Q x34 w5)
 (pN Try.prog (oCall 69 [x0, x1]) w4 fun x38 w6 =>
 pN Try.prog (oExt x38 0) w6 fun x39 w7 =>
 pN Try.prog (oExt x38 1) w7 fun x40 w8 =>
 pN Try.prog (oExt x38 2) w8 fun x41 w9 =>
 pN Try.prog (oBin .eql 34 (.tmp 42) (.const (.pointer none)) x41 (.pointer none)) w9 fun x43 w10 =>
 pGd (gB x43 false) (pN Try.prog (oMv x39) w10) w10 fun x45 w11 =>
 pGd (gB x43 false) (pN Try.prog (oBi .len #[29] 3 [false] [x45]) w11) w11 fun x46 w12 =>
 pGd (gB x43 false) (pN Try.prog (oBin .lss 3 (.tmp 46) (.const (.int .i64 5)) x46 (.int .i64 5)) w12) w12 fun x47 w13 =>
 pN Try.prog (oPick x43 (.bool true) x47) w13 fun x48 w14 =>
 pIf x48
 (Q (.bool false) w14)
 (pN Try.prog (oBs 120 2 [(0, (.slice none 0 0)), (1, x2)]) w14 fun x50 w15 =>
 pN Try.prog (oBi .len #[120] 3 [false] [x50]) w15 fun x51 w16 =>
 ∃ (L7 : Value → World → Prop) (m7 : Value → World → Nat),
 L7 (.int .i64 0) w16 ∧
 ∀ (_k7 : Env) (v52l7 : Value) (w17 : World), L7 v52l7 w17 →
 pN Try.prog (oBin .lss 3 (.tmp 52) (.tmp 51) v52l7 x51) w17 fun x53 w18 =>
 pIf x53
 (pN Try.prog (oIdx 120 x50 v52l7) w18 fun x54 w19 =>
 pN Try.prog (oLoad 29 x54) w19 fun x55 w20 =>
 pN Try.prog (oBs 29 0 []) w20 fun x57 w21 =>
 pN Try.prog (oBi .append #[29, 29] 29 [false, false] [x57, x39]) w21 fun x59 w22 =>
 pN Try.prog (oBi .append #[29, 29] 29 [false, false] [x59, x55]) w22 fun x61 w23 =>
 pN Try.prog (oCall 42 [x61]) w23 fun x62 w24 =>
 pN Try.prog (oExt x62 0) w24 fun x63 w25 =>
 pN Try.prog (oExt x62 1) w25 fun x64 w26 =>
 pN Try.prog (oCall 45 [x0]) w26 fun x67 w27 =>
 pN Try.prog (oExt x67 0) w27 fun x68 w28 =>
 pN Try.prog (oExt x67 1) w28 fun x69 w29 =>
 pN Try.prog (oCall 44 [x64]) w29 fun x71 w30 =>
 pN Try.prog (oBin .neq 3 (.tmp 71) (.const (.int .i64 0)) x71 (.int .i64 0)) w30 fun x72 w31 =>
 pGd (gB x72 false) (pN Try.prog (oMv x69) w31) w31 fun x74 w32 =>
 pGd (gB x72 false) (pN Try.prog (oCall 44 [x74]) w32) w32 fun x75 w33 =>
 pGd (gB x72 false) (pN Try.prog (oBin .neq 3 (.tmp 75) (.const (.int .i64 0)) x75 (.int .i64 0)) w33) w33 fun x76 w34 =>
 pN Try.prog (oPick x72 (.bool true) x76) w34 fun x77 w35 =>
 pGd (gB x77 false) (pN Try.prog (oMv x63) w35) w35 fun x79 w36 =>
 pGd (gB x77 false) (pN Try.prog (oBin .eql 75 (.tmp 79) (.const (.pointer none)) x79 (.pointer none)) w36) w36 fun x80 w37 =>
 pN Try.prog (oPick x77 (.bool true) x80) w37 fun x81 w38 =>
 pGd (gB x81 false) (pN Try.prog (oMv x68) w38) w38 fun x83 w39 =>
 pGd (gB x81 false) (pN Try.prog (oBin .eql 34 (.tmp 83) (.const (.pointer none)) x83 (.pointer none)) w39) w39 fun x84 w40 =>
 pN Try.prog (oPick x81 (.bool true) x84) w40 fun x85 w41 =>
 pIf x85
 (Q (.bool false) w41)
 (pN Try.prog (oBi .len #[74] 3 [false] [x40]) w41 fun x87 w42 =>
 ∃ (L14 : Value → World → Prop) (m14 : Value → World → Nat),
 L14 (.int .i64 0) w42 ∧
 ∀ (_k14 : Env) (v88l14 : Value) (w43 : World), L14 v88l14 w43 →
 pN Try.prog (oBin .lss 3 (.tmp 88) (.tmp 87) v88l14 x87) w43 fun x89 w44 =>
 pIf x89
 (∃ I25 : World → Prop,
 (pN Try.prog (oIdx 74 x40 v88l14) w44 fun x90 w45 =>
 pN Try.prog (oLoad 87 x90) w45 fun x91 w46 =>
 pN Try.prog (oAlloc 87) w46 fun x17 w47 =>
 pN Try.prog (oStore 87 x17 x91) w47 fun _ w48 =>
 ∃ I23 : Value → Value → Value → World → Prop,
 (pN Try.prog (oFld 87 x17 0) w48 fun x92 w49 =>
 pN Try.prog (oLoad 4 x92) w49 fun x93 w50 =>
 pIf x93
 (pN Try.prog (oFld 87 x17 2) w50 fun x94 w51 =>
 pN Try.prog (oLoad 3 x94) w51 fun x95 w52 =>
 pN Try.prog (oFld 87 x17 2) w52 fun x98 w53 =>
 pN Try.prog (oLoad 3 x98) w53 fun x99 w54 =>
 pN Try.prog (oCall 47 [x63, x99]) w54 fun x100 w55 =>
 pN Try.prog (oExt x100 0) w55 fun x101 w56 =>
 pN Try.prog (oExt x100 1) w56 fun x102 w57 =>
 I23 x101 x95 x102 w57)
 (pN Try.prog (oFld 87 x17 1) w50 fun x106 w58 =>
 pN Try.prog (oLoad 3 x106) w58 fun x107 w59 =>
 pN Try.prog (oCall 49 [x63, x68, x107]) w59 fun x108 w60 =>
 pN Try.prog (oExt x108 0) w60 fun x109 w61 =>
 pN Try.prog (oExt x108 1) w61 fun x110 w62 =>
 pN Try.prog (oConv 3 26 x109) w62 fun x112 w63 =>
 I23 x112 (.int .i64 1) x110 w63)) ∧
 ∀ (_j23 : Env) (v18c23 : Value) (bits19c23 : Value) (g20c23 : Value) (w64 : World), I23 v18c23 bits19c23 g20c23 w64 →
 pN Try.prog (oCall 44 [g20c23]) w64 fun x115 w65 =>
 pN Try.prog (oBin .neq 3 (.tmp 115) (.const (.int .i64 0)) x115 (.int .i64 0)) w65 fun x116 w66 =>
 pGd (gB x116 false) (pN Try.prog (oMv v18c23) w66) w66 fun x118 w67 =>
 pGd (gB x116 false) (pN Try.prog (oFld 87 x17 3) w67) w67 fun x119 w68 =>
 pGd (gB x116 false) (pN Try.prog (oLoad 26 x119) w68) w68 fun x120 w69 =>
 pGd (gB x116 false) (pN Try.prog (oMv bits19c23) w69) w69 fun x121 w70 =>
 pGd (gB x116 false) (pN Try.prog (oCall 70 [x120, x121]) w70) w70 fun x122 w71 =>
 pGd (gB x116 false) (pN Try.prog (oBin .neq 26 (.tmp 118) (.tmp 122) x118 x122) w71) w71 fun x123 w72 =>
 pN Try.prog (oPick x116 (.bool true) x123) w72 fun x124 w73 =>
 pIf x124
 (Q (.bool false) w73)
 (I25 w73)) ∧
 ∀ (_j25 : Env) (w74 : World), I25 w74 →
 pN Try.prog (oBin .add 3 (.tmp 88) (.const (.int .i64 1)) v88l14 (.int .i64 1)) w74 fun x125 w75 =>
 (L14 x125 w75 ∧ m14 x125 w75 < m14 v88l14 w43))
 (pN Try.prog (oCall 51 [x63]) w44 fun x127 w76 =>
 pN Try.prog (oBi .len #[29] 3 [false] [x39]) w76 fun x129 w77 =>
 pN Try.prog (oBin .neq 3 (.tmp 127) (.tmp 129) x127 x129) w77 fun x130 w78 =>
 pGd (gB x130 false) (pN Try.prog (oMv x55) w78) w78 fun x132 w79 =>
 pGd (gB x130 false) (pN Try.prog (oBi .len #[29] 3 [false] [x132]) w79) w79 fun x133 w80 =>
 pGd (gB x130 false) (pN Try.prog (oBin .eql 3 (.tmp 133) (.const (.int .i64 0)) x133 (.int .i64 0)) w80) w80 fun x134 w81 =>
 pGd (gB x130 false) (pN Try.prog (oMv x134) w81) w81 fun x135 w82 =>
 pGd (gB x135 true) (pN Try.prog (oMv x63) w82) w82 fun x136 w83 =>
 pGd (gB x135 true) (pN Try.prog (oCall 53 [x136]) w83) w83 fun x137 w84 =>
 pGd (gB x135 true) (pN Try.prog (oUn .not x137) w84) w84 fun x138 w85 =>
 pGd (gB x130 false) (pN Try.prog (oPick x135 x138 (.bool false)) w85) w85 fun x139 w86 =>
 pN Try.prog (oPick x130 (.bool true) x139) w86 fun x140 w87 =>
 pGd (gB x140 false) (pN Try.prog (oMv x55) w87) w87 fun x142 w88 =>
 pGd (gB x140 false) (pN Try.prog (oBi .len #[29] 3 [false] [x142]) w88) w88 fun x143 w89 =>
 pGd (gB x140 false) (pN Try.prog (oBin .gtr 3 (.tmp 143) (.const (.int .i64 0)) x143 (.int .i64 0)) w89) w89 fun x144 w90 =>
 pGd (gB x140 false) (pN Try.prog (oMv x144) w90) w90 fun x145 w91 =>
 pGd (gB x145 true) (pN Try.prog (oMv x63) w91) w91 fun x146 w92 =>
 pGd (gB x145 true) (pN Try.prog (oCall 53 [x146]) w92) w92 fun x147 w93 =>
 pGd (gB x140 false) (pN Try.prog (oPick x145 x147 (.bool false)) w93) w93 fun x148 w94 =>
 pN Try.prog (oPick x140 (.bool true) x148) w94 fun x149 w95 =>
 pIf x149
 (Q (.bool false) w95)
 (∃ (L29 : Value → World → Prop) (m29 : Value → World → Nat),
 L29 (.int .i64 0) w95 ∧
 ∀ (_k29 : Env) (i23l29 : Value) (w96 : World), L29 i23l29 w96 →
 pN Try.prog (oBin .lss 3 (.tmp 150) (.tmp 151) i23l29 x0) w96 fun x152 w97 =>
 pIf x152
 (pN Try.prog (oCall 28 [x41, i23l29]) w97 fun x158 w98 =>
 pN Try.prog (oExt x158 0) w98 fun x159 w99 =>
 pN Try.prog (oExt x158 1) w99 fun x160 w100 =>
 pN Try.prog (oCall 28 [x68, i23l29]) w100 fun x164 w101 =>
 pN Try.prog (oExt x164 0) w101 fun x165 w102 =>
 pN Try.prog (oExt x164 1) w102 fun x166 w103 =>
 pN Try.prog (oBin .neq 3 (.tmp 167) (.tmp 168) x159 x165) w103 fun x169 w104 =>
 pGd (gB x169 false) (pN Try.prog (oMv x160) w104) w104 fun x171 w105 =>
 pGd (gB x169 false) (pN Try.prog (oCall 44 [x171]) w105) w105 fun x172 w106 =>
 pGd (gB x169 false) (pN Try.prog (oBin .neq 3 (.tmp 172) (.const (.int .i64 0)) x172 (.int .i64 0)) w106) w106 fun x173 w107 =>
 pN Try.prog (oPick x169 (.bool true) x173) w107 fun x174 w108 =>
 pGd (gB x174 false) (pN Try.prog (oMv x166) w108) w108 fun x176 w109 =>
 pGd (gB x174 false) (pN Try.prog (oCall 44 [x176]) w109) w109 fun x177 w110 =>
 pGd (gB x174 false) (pN Try.prog (oBin .neq 3 (.tmp 177) (.const (.int .i64 0)) x177 (.int .i64 0)) w110) w110 fun x178 w111 =>
 pN Try.prog (oPick x174 (.bool true) x178) w111 fun x179 w112 =>
 pIf x179
 (Q (.bool false) w112)
 (pN Try.prog (oBin .add 3 (.tmp 153) (.const (.int .i64 1)) i23l29 (.int .i64 1)) w112 fun x154 w113 =>
 (L29 x154 w113 ∧ m29 x154 w113 < m29 i23l29 w96)))
 (pN Try.prog (oBin .add 3 (.tmp 52) (.const (.int .i64 1)) v52l7 (.int .i64 1)) w97 fun x180 w114 =>
 (L7 x180 w114 ∧ m7 x180 w114 < m7 v52l7 w17))))))
 (pN Try.prog (oCall 41 []) w18 fun x181 w115 =>
 Q x181 w115)))
noncomputable def pithlaw08_RcdecBack.c : Code := match Try.f14.body with | some c => c | none => .skip
theorem pithlaw08_RcdecBack.eq [Pan] (x0 : Value) (x1 : Value) (x2 : Value) (w : World) (Q : Value → World → Prop) : cw Try.prog pithlaw08_RcdecBack.H pithlaw08_RcdecBack.c (endQ Try.prog Try.f14.results.toList Q) (argsE [x0, x1, x2]) w = pithlaw08_RcdecBack.F x0 x1 x2 w Q := by kernel_rfl
theorem pithlaw08_RcdecBack.calls [Pan] {x0 : Value} {x1 : Value} {x2 : Value} {w : World} {Q : Value → World → Prop} (h : pithlaw08_RcdecBack.F x0 x1 x2 w Q) : Calls Try.prog 14 #[x0, x1, x2] w (retP Q) :=
  calls_of_cw (H := pithlaw08_RcdecBack.H) (c := pithlaw08_RcdecBack.c) (args := [x0, x1, x2]) mixed Try.func14 (by kernel_rfl) (by kernel_rfl) (Nat.le_of_ble_eq_true (by kernel_rfl)) ((pithlaw08_RcdecBack.eq x0 x1 x2 w Q).mpr h)

/-! pithlaw08_RcdecAgain: pith/pithlaw08.RcdecAgain; temporaries: 0:b 1:n 2:asks 3:b 4:n 5:asks 7:d 8:e 9:s 10:f 11:x 12:_ 13:l 14:i 15:v 16:a 17:c 18:m 19:_ 20:g 21:h 22:t 23:k 24:y 25:used 26:i -/
def pithlaw08_RcdecAgain.H : Hints := { cut := fun  | _ => none, loop := fun | 12 => ([13, 87], 10141050059320924539439263375360) | 29 => ([162], 47884639645509703212025529859116296856006973905174592) | _ => ([], 0), order := fun | 31 => [(0, 0), (1, 1), (2, 3), (3, 7), (4, 15), (5, 31), (6, 63), (7, 127), (8, 255)] | _ => [] }
def pithlaw08_RcdecAgain.F [Pan] (x0 : Value) (x1 : Value) (x2 : Value) (w : World) (Q : Value → World → Prop) : Prop :=
 pN Try.prog (oBin .lss 3 (.tmp 27) (.const (.int .i64 0)) x1 (.int .i64 0)) w fun x28 w1 =>
 pGd (gB x28 false) (pN Try.prog (oMv x1) w1) w1 fun x30 w2 =>
 pGd (gB x28 false) (pN Try.prog (oBin .gtr 3 (.tmp 30) (.const (.int .i64 64)) x30 (.int .i64 64)) w2) w2 fun x31 w3 =>
 pN Try.prog (oPick x28 (.bool true) x31) w3 fun x32 w4 =>
 pIf x32
 (pN Try.prog (oCall 41 []) w4 fun x33 w5 =>
 Q x33 w5)
 (pN Try.prog (oCall 42 [x0]) w4 fun x36 w6 =>
 pN Try.prog (oExt x36 0) w6 fun x37 w7 =>
 pN Try.prog (oExt x36 1) w7 fun x38 w8 =>
 pN Try.prog (oCall 45 [x1]) w8 fun x41 w9 =>
 pN Try.prog (oExt x41 0) w9 fun x42 w10 =>
 pN Try.prog (oExt x41 1) w10 fun x43 w11 =>
 pN Try.prog (oCall 44 [x43]) w11 fun x45 w12 =>
 pN Try.prog (oBin .neq 3 (.tmp 45) (.const (.int .i64 0)) x45 (.int .i64 0)) w12 fun x46 w13 =>
 pIf x46
 (Q (.bool false) w13)
 (pN Try.prog (oCall 44 [x38]) w13 fun x48 w14 =>
 pN Try.prog (oBin .neq 3 (.tmp 48) (.const (.int .i64 0)) x48 (.int .i64 0)) w14 fun x49 w15 =>
 pGd (gB x49 false) (pN Try.prog (oMv x37) w15) w15 fun x51 w16 =>
 pGd (gB x49 false) (pN Try.prog (oBin .eql 75 (.tmp 51) (.const (.pointer none)) x51 (.pointer none)) w16) w16 fun x52 w17 =>
 pN Try.prog (oPick x49 (.bool true) x52) w17 fun x53 w18 =>
 pIf x53
 (pN Try.prog (oCall 44 [x38]) w18 fun x55 w19 =>
 pN Try.prog (oBin .neq 3 (.tmp 55) (.const (.int .i64 0)) x55 (.int .i64 0)) w19 fun x56 w20 =>
 pGd (gB x56 true) (pN Try.prog (oMv x37) w20) w20 fun x58 w21 =>
 pGd (gB x56 true) (pN Try.prog (oBin .eql 75 (.tmp 58) (.const (.pointer none)) x58 (.pointer none)) w21) w21 fun x59 w22 =>
 pN Try.prog (oPick x56 x59 (.bool false)) w22 fun x60 w23 =>
 pGd (gB x60 true) (pN Try.prog (oMv x0) w23) w23 fun x62 w24 =>
 pGd (gB x60 true) (pN Try.prog (oBi .len #[29] 3 [false] [x62]) w24) w24 fun x63 w25 =>
 pGd (gB x60 true) (pN Try.prog (oBin .lss 3 (.tmp 63) (.const (.int .i64 5)) x63 (.int .i64 5)) w25) w25 fun x64 w26 =>
 pGd (gB x60 true) (pN Try.prog (oMv x64) w26) w26 fun x65 w27 =>
 pGd (gB x65 false) (pN Try.prog (oMv x0) w27) w27 fun x66 w28 =>
 pGd (gB x65 false) (pN Try.prog (oIdx 29 x66 (.int .i64 0)) w28) w28 fun x67 w29 =>
 pGd (gB x65 false) (pN Try.prog (oLoad 5 x67) w29) w29 fun x68 w30 =>
 pGd (gB x65 false) (pN Try.prog (oBin .neq 5 (.tmp 68) (.const (.int .u8 0)) x68 (bv 0)) w30) w30 fun x69 w31 =>
 pGd (gB x60 true) (pN Try.prog (oPick x65 (.bool true) x69) w31) w31 fun x70 w32 =>
 pGd (gB x60 true) (pN Try.prog (oMv x70) w32) w32 fun x71 w33 =>
 pGd (gB x71 false) (pN Try.prog (oMv x0) w33) w33 fun x72 w34 =>
 pGd (gB x71 false) (pN Try.prog (oSl 29 x72 (some (.int .i64 1)) (some (.int .i64 5)) none) w34) w34 fun x73 w35 =>
 pGd (gB x71 false) (pN Try.prog (oConv 29 9 x73) w35) w35 fun x74 w36 =>
 pGd (gB x71 false) (pN Try.prog (oBin .eql 9 (.tmp 74) (.const (.string ⟨#[255, 255, 255, 255]⟩)) x74 (.string ⟨#[255, 255, 255, 255]⟩)) w36) w36 fun x75 w37 =>
 pGd (gB x60 true) (pN Try.prog (oPick x71 (.bool true) x75) w37) w37 fun x76 w38 =>
 pN Try.prog (oPick x60 x76 (.bool false)) w38 fun x77 w39 =>
 Q x77 w39)
 (pN Try.prog (oCall 56 [x37, x42, x2]) w18 fun x82 w40 =>
 pN Try.prog (oExt x82 0) w40 fun x83 w41 =>
 pN Try.prog (oExt x82 1) w41 fun _ w42 =>
 pN Try.prog (oBi .len #[22] 3 [false] [x83]) w42 fun x86 w43 =>
 ∃ (L12 : Value → Value → World → Prop) (m12 : Value → Value → World → Nat),
 L12 (.slice none 0 0) (.int .i64 0) w43 ∧
 ∀ (_k12 : Env) (l13l12 : Value) (v87l12 : Value) (w44 : World), L12 l13l12 v87l12 w44 →
 pN Try.prog (oBin .lss 3 (.tmp 87) (.tmp 86) v87l12 x86) w44 fun x88 w45 =>
 pIf x88
 (pN Try.prog (oIdx 22 x83 v87l12) w45 fun x90 w46 =>
 pN Try.prog (oLoad 26 x90) w46 fun x91 w47 =>
 pN Try.prog (oIdx 74 x2 v87l12) w47 fun x94 w48 =>
 pN Try.prog (oLoad 87 x94) w48 fun x95 w49 =>
 pN Try.prog (oAlloc 87) w49 fun x16 w50 =>
 pN Try.prog (oStore 87 x16 x95) w50 fun _ w51 =>
 pN Try.prog (oFld 87 x16 3) w51 fun x97 w52 =>
 pN Try.prog (oStore 26 x97 x91) w52 fun _ w53 =>
 pN Try.prog (oLoad 87 x16) w53 fun x99 w54 =>
 pN Try.prog (oBs 74 1 [(0, x99)]) w54 fun x100 w55 =>
 pN Try.prog (oBi .append #[74, 74] 74 [false, false] [l13l12, x100]) w55 fun x101 w56 =>
 pN Try.prog (oBin .add 3 (.tmp 87) (.const (.int .i64 1)) v87l12 (.int .i64 1)) w56 fun x102 w57 =>
 (L12 x101 x102 w57 ∧ m12 x101 x102 w57 < m12 l13l12 v87l12 w44))
 (pN Try.prog (oCall 69 [x1, l13l12]) w45 fun x106 w58 =>
 pN Try.prog (oExt x106 0) w58 fun x107 w59 =>
 pN Try.prog (oExt x106 1) w59 fun x108 w60 =>
 pN Try.prog (oExt x106 2) w60 fun _ w61 =>
 pN Try.prog (oBi .len #[74] 3 [false] [x108]) w61 fun x111 w62 =>
 pN Try.prog (oBi .len #[74] 3 [false] [l13l12]) w62 fun x113 w63 =>
 pN Try.prog (oBin .neq 3 (.tmp 111) (.tmp 113) x111 x113) w63 fun x114 w64 =>
 pIf x114
 (Q (.bool false) w64)
 (pN Try.prog (oCall 42 [x107]) w64 fun x117 w65 =>
 pN Try.prog (oExt x117 0) w65 fun x118 w66 =>
 pN Try.prog (oExt x117 1) w66 fun x119 w67 =>
 pN Try.prog (oCall 45 [x1]) w67 fun x122 w68 =>
 pN Try.prog (oExt x122 0) w68 fun x123 w69 =>
 pN Try.prog (oExt x122 1) w69 fun x124 w70 =>
 pN Try.prog (oCall 44 [x119]) w70 fun x126 w71 =>
 pN Try.prog (oBin .neq 3 (.tmp 126) (.const (.int .i64 0)) x126 (.int .i64 0)) w71 fun x127 w72 =>
 pGd (gB x127 false) (pN Try.prog (oMv x124) w72) w72 fun x129 w73 =>
 pGd (gB x127 false) (pN Try.prog (oCall 44 [x129]) w73) w73 fun x130 w74 =>
 pGd (gB x127 false) (pN Try.prog (oBin .neq 3 (.tmp 130) (.const (.int .i64 0)) x130 (.int .i64 0)) w74) w74 fun x131 w75 =>
 pN Try.prog (oPick x127 (.bool true) x131) w75 fun x132 w76 =>
 pGd (gB x132 false) (pN Try.prog (oMv x118) w76) w76 fun x134 w77 =>
 pGd (gB x132 false) (pN Try.prog (oBin .eql 75 (.tmp 134) (.const (.pointer none)) x134 (.pointer none)) w77) w77 fun x135 w78 =>
 pN Try.prog (oPick x132 (.bool true) x135) w78 fun x136 w79 =>
 pIf x136
 (Q (.bool false) w79)
 (pN Try.prog (oCall 56 [x118, x123, l13l12]) w79 fun x141 w80 =>
 pN Try.prog (oExt x141 0) w80 fun x142 w81 =>
 pN Try.prog (oExt x141 1) w81 fun x143 w82 =>
 pN Try.prog (oBi .len #[22] 3 [false] [x142]) w82 fun x145 w83 =>
 pN Try.prog (oBi .len #[22] 3 [false] [x83]) w83 fun x147 w84 =>
 pN Try.prog (oBin .neq 3 (.tmp 145) (.tmp 147) x145 x147) w84 fun x148 w85 =>
 pGd (gB x148 false) (pN Try.prog (oMv x143) w85) w85 fun x150 w86 =>
 pGd (gB x148 false) (pN Try.prog (oMv x107) w86) w86 fun x151 w87 =>
 pGd (gB x148 false) (pN Try.prog (oBi .len #[29] 3 [false] [x151]) w87) w87 fun x152 w88 =>
 pGd (gB x148 false) (pN Try.prog (oBin .neq 3 (.tmp 150) (.tmp 152) x150 x152) w88) w88 fun x153 w89 =>
 pN Try.prog (oPick x148 (.bool true) x153) w89 fun x154 w90 =>
 pGd (gB x154 false) (pN Try.prog (oMv x118) w90) w90 fun x156 w91 =>
 pGd (gB x154 false) (pN Try.prog (oCall 53 [x156]) w91) w91 fun x157 w92 =>
 pGd (gB x154 false) (pN Try.prog (oUn .not x157) w92) w92 fun x158 w93 =>
 pN Try.prog (oPick x154 (.bool true) x158) w93 fun x159 w94 =>
 pIf x159
 (Q (.bool false) w94)
 (pN Try.prog (oBi .len #[22] 3 [false] [x83]) w94 fun x161 w95 =>
 ∃ (L29 : Value → World → Prop) (m29 : Value → World → Nat),
 L29 (.int .i64 0) w95 ∧
 ∀ (_k29 : Env) (v162l29 : Value) (w96 : World), L29 v162l29 w96 →
 pN Try.prog (oBin .lss 3 (.tmp 162) (.tmp 161) v162l29 x161) w96 fun x163 w97 =>
 pIf x163
 (pDr w97 fun w98 =>
 pA Try.prog (oIdx 22 x83 v162l29) fun x167 =>
 pL Try.prog (oLoad 26 x167) w98 fun x168 =>
 pA Try.prog (oIdx 22 x142 v162l29) fun x171 =>
 pL Try.prog (oLoad 26 x171) w98 fun x172 =>
 pA Try.prog (oBin .neq 26 (.tmp 168) (.tmp 172) x168 x172) fun x173 =>
 pIf x173
 (Q (.bool false) w98)
 (pN Try.prog (oBin .add 3 (.tmp 162) (.const (.int .i64 1)) v162l29 (.int .i64 1)) w98 fun x174 w99 =>
 (L29 x174 w99 ∧ m29 x174 w99 < m29 v162l29 w96)))
 (Q (.bool true) w97))))))))
noncomputable def pithlaw08_RcdecAgain.c : Code := match Try.f15.body with | some c => c | none => .skip
theorem pithlaw08_RcdecAgain.eq [Pan] (x0 : Value) (x1 : Value) (x2 : Value) (w : World) (Q : Value → World → Prop) : cw Try.prog pithlaw08_RcdecAgain.H pithlaw08_RcdecAgain.c (endQ Try.prog Try.f15.results.toList Q) (argsE [x0, x1, x2]) w = pithlaw08_RcdecAgain.F x0 x1 x2 w Q := by kernel_rfl
theorem pithlaw08_RcdecAgain.calls [Pan] {x0 : Value} {x1 : Value} {x2 : Value} {w : World} {Q : Value → World → Prop} (h : pithlaw08_RcdecAgain.F x0 x1 x2 w Q) : Calls Try.prog 15 #[x0, x1, x2] w (retP Q) :=
  calls_of_cw (H := pithlaw08_RcdecAgain.H) (c := pithlaw08_RcdecAgain.c) (args := [x0, x1, x2]) mixed Try.func15 (by kernel_rfl) (by kernel_rfl) (Nat.le_of_ble_eq_true (by kernel_rfl)) ((pithlaw08_RcdecAgain.eq x0 x1 x2 w Q).mpr h)

/-! pithlaw08_known: pith/pithlaw08.known; temporaries: 1:d 2:e 3:s 4:f 5:bit 6:g 7:o 8:h 9:v 10:k -/
def pithlaw08_known.H : Hints := { cut := fun  | _ => none, loop := fun  | _ => ([], 0), order := fun  | _ => [] }
def pithlaw08_known.F [Pan]  (w : World) (Q : Value → World → Prop) : Prop :=
 pN Try.prog (oBs 29 5 [(0, (bv 0)), (1, (bv 127)), (2, (bv 255)), (3, (bv 252)), (4, (bv 0))]) w fun x12 w1 =>
 pN Try.prog (oCall 42 [x12]) w1 fun x13 w2 =>
 pN Try.prog (oExt x13 0) w2 fun x14 w3 =>
 pN Try.prog (oExt x13 1) w3 fun x15 w4 =>
 pN Try.prog (oCall 45 [(.int .i64 1)]) w4 fun x17 w5 =>
 pN Try.prog (oExt x17 0) w5 fun x18 w6 =>
 pN Try.prog (oExt x17 1) w6 fun x19 w7 =>
 pN Try.prog (oCall 44 [x15]) w7 fun x21 w8 =>
 pN Try.prog (oBin .neq 3 (.tmp 21) (.const (.int .i64 0)) x21 (.int .i64 0)) w8 fun x22 w9 =>
 pGd (gB x22 false) (pN Try.prog (oMv x19) w9) w9 fun x24 w10 =>
 pGd (gB x22 false) (pN Try.prog (oCall 44 [x24]) w10) w10 fun x25 w11 =>
 pGd (gB x22 false) (pN Try.prog (oBin .neq 3 (.tmp 25) (.const (.int .i64 0)) x25 (.int .i64 0)) w11) w11 fun x26 w12 =>
 pN Try.prog (oPick x22 (.bool true) x26) w12 fun x27 w13 =>
 pGd (gB x27 false) (pN Try.prog (oMv x14) w13) w13 fun x29 w14 =>
 pGd (gB x27 false) (pN Try.prog (oBin .eql 75 (.tmp 29) (.const (.pointer none)) x29 (.pointer none)) w14) w14 fun x30 w15 =>
 pN Try.prog (oPick x27 (.bool true) x30) w15 fun x31 w16 =>
 pGd (gB x31 false) (pN Try.prog (oMv x18) w16) w16 fun x33 w17 =>
 pGd (gB x31 false) (pN Try.prog (oBin .eql 34 (.tmp 33) (.const (.pointer none)) x33 (.pointer none)) w17) w17 fun x34 w18 =>
 pN Try.prog (oPick x31 (.bool true) x34) w18 fun x35 w19 =>
 pIf x35
 (Q (.bool false) w19)
 (pN Try.prog (oCall 49 [x14, x18, (.int .i64 0)]) w19 fun x39 w20 =>
 pN Try.prog (oExt x39 0) w20 fun x40 w21 =>
 pN Try.prog (oExt x39 1) w21 fun x41 w22 =>
 pN Try.prog (oBs 29 5 [(0, (bv 0)), (1, (bv 255)), (2, (bv 255)), (3, (bv 255)), (4, (bv 254))]) w22 fun x43 w23 =>
 pN Try.prog (oCall 42 [x43]) w23 fun x44 w24 =>
 pN Try.prog (oExt x44 0) w24 fun x45 w25 =>
 pN Try.prog (oExt x44 1) w25 fun x46 w26 =>
 pN Try.prog (oCall 44 [x46]) w26 fun x48 w27 =>
 pN Try.prog (oBin .neq 3 (.tmp 48) (.const (.int .i64 0)) x48 (.int .i64 0)) w27 fun x49 w28 =>
 pGd (gB x49 false) (pN Try.prog (oMv x45) w28) w28 fun x51 w29 =>
 pGd (gB x49 false) (pN Try.prog (oBin .eql 75 (.tmp 51) (.const (.pointer none)) x51 (.pointer none)) w29) w29 fun x52 w30 =>
 pN Try.prog (oPick x49 (.bool true) x52) w30 fun x53 w31 =>
 pIf x53
 (Q (.bool false) w31)
 (pN Try.prog (oCall 47 [x45, (.int .i64 1)]) w31 fun x56 w32 =>
 pN Try.prog (oExt x56 0) w32 fun x57 w33 =>
 pN Try.prog (oExt x56 1) w33 fun x58 w34 =>
 pN Try.prog (oBin .eql 3 (.tmp 59) (.const (.int .i64 1)) x40 (.int .i64 1)) w34 fun x60 w35 =>
 pGd (gB x60 true) (pN Try.prog (oMv x41) w35) w35 fun x62 w36 =>
 pGd (gB x60 true) (pN Try.prog (oCall 44 [x62]) w36) w36 fun x63 w37 =>
 pGd (gB x60 true) (pN Try.prog (oBin .eql 3 (.tmp 63) (.const (.int .i64 0)) x63 (.int .i64 0)) w37) w37 fun x64 w38 =>
 pN Try.prog (oPick x60 x64 (.bool false)) w38 fun x65 w39 =>
 pGd (gB x65 true) (pN Try.prog (oMv x14) w39) w39 fun x67 w40 =>
 pGd (gB x65 true) (pN Try.prog (oCall 51 [x67]) w40) w40 fun x68 w41 =>
 pGd (gB x65 true) (pN Try.prog (oBin .eql 3 (.tmp 68) (.const (.int .i64 5)) x68 (.int .i64 5)) w41) w41 fun x69 w42 =>
 pN Try.prog (oPick x65 x69 (.bool false)) w42 fun x70 w43 =>
 pGd (gB x70 true) (pN Try.prog (oMv x14) w43) w43 fun x72 w44 =>
 pGd (gB x70 true) (pN Try.prog (oCall 53 [x72]) w44) w44 fun x73 w45 =>
 pN Try.prog (oPick x70 x73 (.bool false)) w45 fun x74 w46 =>
 pGd (gB x74 true) (pN Try.prog (oMv x57) w46) w46 fun x76 w47 =>
 pGd (gB x74 true) (pN Try.prog (oBin .eql 26 (.tmp 76) (.const (.int .u32 0)) x76 (.int .u32 0)) w47) w47 fun x77 w48 =>
 pN Try.prog (oPick x74 x77 (.bool false)) w48 fun x78 w49 =>
 pGd (gB x78 true) (pN Try.prog (oMv x58) w49) w49 fun x80 w50 =>
 pGd (gB x78 true) (pN Try.prog (oCall 44 [x80]) w50) w50 fun x81 w51 =>
 pGd (gB x78 true) (pN Try.prog (oBin .eql 3 (.tmp 81) (.const (.int .i64 2)) x81 (.int .i64 2)) w51) w51 fun x82 w52 =>
 pN Try.prog (oPick x78 x82 (.bool false)) w52 fun x83 w53 =>
 pGd (gB x83 true) (pN Try.prog (oMv x45) w53) w53 fun x85 w54 =>
 pGd (gB x83 true) (pN Try.prog (oCall 51 [x85]) w54) w54 fun x86 w55 =>
 pGd (gB x83 true) (pN Try.prog (oBin .eql 3 (.tmp 86) (.const (.int .i64 5)) x86 (.int .i64 5)) w55) w55 fun x87 w56 =>
 pN Try.prog (oPick x83 x87 (.bool false)) w56 fun x88 w57 =>
 Q x88 w57))
noncomputable def pithlaw08_known.c : Code := match Try.f41.body with | some c => c | none => .skip
theorem pithlaw08_known.eq [Pan]  (w : World) (Q : Value → World → Prop) : cw Try.prog pithlaw08_known.H pithlaw08_known.c (endQ Try.prog Try.f41.results.toList Q) (argsE []) w = pithlaw08_known.F  w Q := by kernel_rfl
theorem pithlaw08_known.calls [Pan]  {w : World} {Q : Value → World → Prop} (h : pithlaw08_known.F  w Q) : Calls Try.prog 41 #[] w (retP Q) :=
  calls_of_cw (H := pithlaw08_known.H) (c := pithlaw08_known.c) (args := []) mixed Try.func41 (by kernel_rfl) (by kernel_rfl) (Nat.le_of_ble_eq_true (by kernel_rfl)) ((pithlaw08_known.eq  w Q).mpr h)

/-! pithlaw08_num: pith/pithlaw08.num; temporaries: 0:e 1:e -/
def pithlaw08_num.H : Hints := { cut := fun  | _ => none, loop := fun  | _ => ([], 0), order := fun  | _ => [] }
def pithlaw08_num.F [Pan] (x0 : Value) (w : World) (Q : Value → World → Prop) : Prop :=
 Q x0 w
noncomputable def pithlaw08_num.c : Code := match Try.f44.body with | some c => c | none => .skip
theorem pithlaw08_num.eq [Pan] (x0 : Value) (w : World) (Q : Value → World → Prop) : cw Try.prog pithlaw08_num.H pithlaw08_num.c (endQ Try.prog Try.f44.results.toList Q) (argsE [x0]) w = pithlaw08_num.F x0 w Q := by kernel_rfl
theorem pithlaw08_num.calls [Pan] {x0 : Value} {w : World} {Q : Value → World → Prop} (h : pithlaw08_num.F x0 w Q) : Calls Try.prog 44 #[x0] w (retP Q) :=
  calls_of_cw (H := pithlaw08_num.H) (c := pithlaw08_num.c) (args := [x0]) mixed Try.func44 (by kernel_rfl) (by kernel_rfl) (Nat.le_of_ble_eq_true (by kernel_rfl)) ((pithlaw08_num.eq x0 w Q).mpr h)

/-! pithlaw08_alike: pith/pithlaw08.alike; temporaries: 0:s 1:r 2:n 3:s 4:r 5:n 7:i 8:p 9:e 10:q 11:f -/
def pithlaw08_alike.H : Hints := { cut := fun  | _ => none, loop := fun | 2 => ([7], 274877906880) | _ => ([], 0), order := fun  | _ => [] }
def pithlaw08_alike.F [Pan] (x0 : Value) (x1 : Value) (x2 : Value) (w : World) (Q : Value → World → Prop) : Prop :=
 ∃ (L2 : Value → World → Prop) (m2 : Value → World → Nat),
 L2 (.int .i64 0) w ∧
 ∀ (_k2 : Env) (i7l2 : Value) (w1 : World), L2 i7l2 w1 →
 pN Try.prog (oBin .lss 3 (.tmp 12) (.tmp 13) i7l2 x2) w1 fun x14 w2 =>
 pIf x14
 (pN Try.prog (oCall 28 [x0, i7l2]) w2 fun x20 w3 =>
 pN Try.prog (oExt x20 0) w3 fun x21 w4 =>
 pN Try.prog (oExt x20 1) w4 fun x22 w5 =>
 pN Try.prog (oCall 79 [x1, i7l2]) w5 fun x26 w6 =>
 pN Try.prog (oExt x26 0) w6 fun x27 w7 =>
 pN Try.prog (oExt x26 1) w7 fun x28 w8 =>
 pN Try.prog (oBin .neq 3 (.tmp 29) (.tmp 30) x21 x27) w8 fun x31 w9 =>
 pGd (gB x31 false) (pN Try.prog (oMv x22) w9) w9 fun x33 w10 =>
 pGd (gB x31 false) (pN Try.prog (oCall 44 [x33]) w10) w10 fun x34 w11 =>
 pGd (gB x31 false) (pN Try.prog (oMv x28) w11) w11 fun x35 w12 =>
 pGd (gB x31 false) (pN Try.prog (oBin .neq 3 (.tmp 34) (.tmp 35) x34 x35) w12) w12 fun x36 w13 =>
 pN Try.prog (oPick x31 (.bool true) x36) w13 fun x37 w14 =>
 pIf x37
 (Q (.bool false) w14)
 (pN Try.prog (oBin .add 3 (.tmp 15) (.const (.int .i64 1)) i7l2 (.int .i64 1)) w14 fun x16 w15 =>
 (L2 x16 w15 ∧ m2 x16 w15 < m2 i7l2 w1)))
 (Q (.bool true) w2)
noncomputable def pithlaw08_alike.c : Code := match Try.f55.body with | some c => c | none => .skip
theorem pithlaw08_alike.eq [Pan] (x0 : Value) (x1 : Value) (x2 : Value) (w : World) (Q : Value → World → Prop) : cw Try.prog pithlaw08_alike.H pithlaw08_alike.c (endQ Try.prog Try.f55.results.toList Q) (argsE [x0, x1, x2]) w = pithlaw08_alike.F x0 x1 x2 w Q := by kernel_rfl
theorem pithlaw08_alike.calls [Pan] {x0 : Value} {x1 : Value} {x2 : Value} {w : World} {Q : Value → World → Prop} (h : pithlaw08_alike.F x0 x1 x2 w Q) : Calls Try.prog 55 #[x0, x1, x2] w (retP Q) :=
  calls_of_cw (H := pithlaw08_alike.H) (c := pithlaw08_alike.c) (args := [x0, x1, x2]) mixed Try.func55 (by kernel_rfl) (by kernel_rfl) (Nat.le_of_ble_eq_true (by kernel_rfl)) ((pithlaw08_alike.eq x0 x1 x2 w Q).mpr h)

/-! pithlaw08_answered: pith/pithlaw08.answered; temporaries: 0:d 1:s 2:asks 3:d 4:s 5:asks 8:l 9:_ 10:a 11:v 12:e 13:bit 14:e -/
def pithlaw08_answered.H : Hints := { cut := fun | 14 => some ([8], 576460752302931392) | _ => none, loop := fun | 3 => ([8, 17], 1152921504606748096) | _ => ([], 0), order := fun  | _ => [] }
def pithlaw08_answered.F [Pan] (x0 : Value) (x1 : Value) (x2 : Value) (w : World) (Q : Value → World → Prop) : Prop :=
 pN Try.prog (oBi .len #[74] 3 [false] [x2]) w fun x16 w1 =>
 ∃ (L3 : Value → Value → World → Prop) (m3 : Value → Value → World → Nat),
 L3 (.slice none 0 0) (.int .i64 0) w1 ∧
 ∀ (_k3 : Env) (l8l3 : Value) (v17l3 : Value) (w2 : World), L3 l8l3 v17l3 w2 →
 pN Try.prog (oBin .lss 3 (.tmp 17) (.tmp 16) v17l3 x16) w2 fun x18 w3 =>
 pIf x18
 (∃ I14 : Value → World → Prop,
 (pN Try.prog (oIdx 74 x2 v17l3) w3 fun x19 w4 =>
 pN Try.prog (oLoad 87 x19) w4 fun x20 w5 =>
 pN Try.prog (oAlloc 87) w5 fun x10 w6 =>
 pN Try.prog (oStore 87 x10 x20) w6 fun _ w7 =>
 pN Try.prog (oFld 87 x10 0) w7 fun x21 w8 =>
 pN Try.prog (oLoad 4 x21) w8 fun x22 w9 =>
 pIf x22
 (pN Try.prog (oFld 87 x10 2) w9 fun x25 w10 =>
 pN Try.prog (oLoad 3 x25) w10 fun x26 w11 =>
 pN Try.prog (oCall 47 [x0, x26]) w11 fun x27 w12 =>
 pN Try.prog (oExt x27 0) w12 fun x28 w13 =>
 pN Try.prog (oExt x27 1) w13 fun x29 w14 =>
 pN Try.prog (oCall 44 [x29]) w14 fun x31 w15 =>
 pN Try.prog (oBin .neq 3 (.tmp 31) (.const (.int .i64 0)) x31 (.int .i64 0)) w15 fun x32 w16 =>
 pIf x32
 (pN Try.prog (oCall 51 [x0]) w16 fun x35 w17 =>
 Q (.tuple #[l8l3, x35]) w17)
 (pN Try.prog (oBs 22 1 [(0, x28)]) w16 fun x38 w18 =>
 pN Try.prog (oBi .append #[22, 22] 22 [false, false] [l8l3, x38]) w18 fun x39 w19 =>
 I14 x39 w19))
 (pN Try.prog (oFld 87 x10 1) w9 fun x43 w20 =>
 pN Try.prog (oLoad 3 x43) w20 fun x44 w21 =>
 pN Try.prog (oCall 49 [x0, x1, x44]) w21 fun x45 w22 =>
 pN Try.prog (oExt x45 0) w22 fun x46 w23 =>
 pN Try.prog (oExt x45 1) w23 fun x47 w24 =>
 pN Try.prog (oCall 44 [x47]) w24 fun x49 w25 =>
 pN Try.prog (oBin .neq 3 (.tmp 49) (.const (.int .i64 0)) x49 (.int .i64 0)) w25 fun x50 w26 =>
 pIf x50
 (pN Try.prog (oCall 51 [x0]) w26 fun x53 w27 =>
 Q (.tuple #[l8l3, x53]) w27)
 (pN Try.prog (oConv 3 26 x46) w26 fun x56 w28 =>
 pN Try.prog (oBs 22 1 [(0, x56)]) w28 fun x57 w29 =>
 pN Try.prog (oBi .append #[22, 22] 22 [false, false] [l8l3, x57]) w29 fun x58 w30 =>
 I14 x58 w30))) ∧
 ∀ (_j14 : Env) (l8c14 : Value) (w31 : World), I14 l8c14 w31 →
 pN Try.prog (oBin .add 3 (.tmp 17) (.const (.int .i64 1)) v17l3 (.int .i64 1)) w31 fun x59 w32 =>
 (L3 l8c14 x59 w32 ∧ m3 l8c14 x59 w32 < m3 l8l3 v17l3 w2))
 (pN Try.prog (oCall 51 [x0]) w3 fun x62 w33 =>
 Q (.tuple #[l8l3, x62]) w33)
noncomputable def pithlaw08_answered.c : Code := match Try.f56.body with | some c => c | none => .skip
theorem pithlaw08_answered.eq [Pan] (x0 : Value) (x1 : Value) (x2 : Value) (w : World) (Q : Value → World → Prop) : cw Try.prog pithlaw08_answered.H pithlaw08_answered.c (endQ Try.prog Try.f56.results.toList Q) (argsE [x0, x1, x2]) w = pithlaw08_answered.F x0 x1 x2 w Q := by kernel_rfl
theorem pithlaw08_answered.calls [Pan] {x0 : Value} {x1 : Value} {x2 : Value} {w : World} {Q : Value → World → Prop} (h : pithlaw08_answered.F x0 x1 x2 w Q) : Calls Try.prog 56 #[x0, x1, x2] w (retP Q) :=
  calls_of_cw (H := pithlaw08_answered.H) (c := pithlaw08_answered.c) (args := [x0, x1, x2]) mixed Try.func56 (by kernel_rfl) (by kernel_rfl) (Nat.le_of_ble_eq_true (by kernel_rfl)) ((pithlaw08_answered.eq x0 x1 x2 w Q).mpr h)

/-! pithlaw08_encoded: pith/pithlaw08.encoded; temporaries: 0:n 1:asks 2:n 3:asks 7:s 8:e 9:enc 10:l 11:_ 12:a -/
def pithlaw08_encoded.H : Hints := { cut := fun | 13 => some ([10], 1152921435887371376) | 17 => some ([10], 618970019642690120269698160) | _ => none, loop := fun | 7 => ([10, 32], 1237940039285380270604162160) | _ => ([], 0), order := fun  | _ => [] }
def pithlaw08_encoded.F [Pan] (x0 : Value) (x1 : Value) (w : World) (Q : Value → World → Prop) : Prop :=
 pN Try.prog (oCall 45 [x0]) w fun x15 w1 =>
 pN Try.prog (oExt x15 0) w1 fun x16 w2 =>
 pN Try.prog (oExt x15 1) w2 fun x17 w3 =>
 pN Try.prog (oCall 18 []) w3 fun x18 w4 =>
 pN Try.prog (oCall 44 [x17]) w4 fun x20 w5 =>
 pN Try.prog (oBin .neq 3 (.tmp 20) (.const (.int .i64 0)) x20 (.int .i64 0)) w5 fun x21 w6 =>
 pGd (gB x21 false) (pN Try.prog (oMv x16) w6) w6 fun x23 w7 =>
 pGd (gB x21 false) (pN Try.prog (oBin .eql 34 (.tmp 23) (.const (.pointer none)) x23 (.pointer none)) w7) w7 fun x24 w8 =>
 pN Try.prog (oPick x21 (.bool true) x24) w8 fun x25 w9 =>
 pGd (gB x25 false) (pN Try.prog (oMv x18) w9) w9 fun x27 w10 =>
 pGd (gB x25 false) (pN Try.prog (oBin .eql 24 (.tmp 27) (.const (.pointer none)) x27 (.pointer none)) w10) w10 fun x28 w11 =>
 pN Try.prog (oPick x25 (.bool true) x28) w11 fun x29 w12 =>
 pIf x29
 (Q (.tuple #[(.slice none 0 0), (.slice none 0 0), (.pointer none)]) w12)
 (pN Try.prog (oBi .len #[74] 3 [false] [x1]) w12 fun x31 w13 =>
 ∃ (L7 : Value → Value → World → Prop) (m7 : Value → Value → World → Nat),
 L7 (.slice none 0 0) (.int .i64 0) w13 ∧
 ∀ (_k7 : Env) (l10l7 : Value) (v32l7 : Value) (w14 : World), L7 l10l7 v32l7 w14 →
 pN Try.prog (oBin .lss 3 (.tmp 32) (.tmp 31) v32l7 x31) w14 fun x33 w15 =>
 pIf x33
 (∃ I17 : Value → World → Prop,
 (pN Try.prog (oIdx 74 x1 v32l7) w15 fun x34 w16 =>
 pN Try.prog (oLoad 87 x34) w16 fun x35 w17 =>
 pN Try.prog (oAlloc 87) w17 fun x12 w18 =>
 pN Try.prog (oStore 87 x12 x35) w18 fun _ w19 =>
 ∃ I13 : Value → World → Prop,
 (pN Try.prog (oFld 87 x12 0) w19 fun x36 w20 =>
 pN Try.prog (oLoad 4 x36) w20 fun x37 w21 =>
 pGd (gB x37 true) (pN Try.prog (oFld 87 x12 2) w21) w21 fun x39 w22 =>
 pGd (gB x37 true) (pN Try.prog (oLoad 3 x39) w22) w22 fun x40 w23 =>
 pGd (gB x37 true) (pN Try.prog (oBin .geq 3 (.tmp 40) (.const (.int .i64 0)) x40 (.int .i64 0)) w23) w23 fun x41 w24 =>
 pN Try.prog (oPick x37 x41 (.bool false)) w24 fun x42 w25 =>
 pGd (gB x42 true) (pN Try.prog (oFld 87 x12 2) w25) w25 fun x44 w26 =>
 pGd (gB x42 true) (pN Try.prog (oLoad 3 x44) w26) w26 fun x45 w27 =>
 pGd (gB x42 true) (pN Try.prog (oBin .leq 3 (.tmp 45) (.const (.int .i64 32)) x45 (.int .i64 32)) w27) w27 fun x46 w28 =>
 pN Try.prog (oPick x42 x46 (.bool false)) w28 fun x47 w29 =>
 pIf x47
 (pN Try.prog (oFld 87 x12 3) w29 fun x49 w30 =>
 pN Try.prog (oLoad 26 x49) w30 fun x50 w31 =>
 pN Try.prog (oFld 87 x12 2) w31 fun x51 w32 =>
 pN Try.prog (oLoad 3 x51) w32 fun x52 w33 =>
 pN Try.prog (oCall 19 [x18, x50, x52]) w33 fun x53 w34 =>
 pN Try.prog (oCall 44 [x53]) w34 fun x54 w35 =>
 pN Try.prog (oBin .neq 3 (.tmp 54) (.const (.int .i64 0)) x54 (.int .i64 0)) w35 fun x55 w36 =>
 pIf x55
 (Q (.tuple #[(.slice none 0 0), (.slice none 0 0), (.pointer none)]) w36)
 (pN Try.prog (oLoad 87 x12) w36 fun x57 w37 =>
 pN Try.prog (oBs 74 1 [(0, x57)]) w37 fun x58 w38 =>
 pN Try.prog (oBi .append #[74, 74] 74 [false, false] [l10l7, x58]) w38 fun x59 w39 =>
 I13 x59 w39))
 (I13 l10l7 w29)) ∧
 ∀ (_j13 : Env) (l10c13 : Value) (w40 : World), I13 l10c13 w40 →
 pN Try.prog (oFld 87 x12 0) w40 fun x60 w41 =>
 pN Try.prog (oLoad 4 x60) w41 fun x61 w42 =>
 pN Try.prog (oUn .not x61) w42 fun x62 w43 =>
 pGd (gB x62 true) (pN Try.prog (oFld 87 x12 1) w43) w43 fun x64 w44 =>
 pGd (gB x62 true) (pN Try.prog (oLoad 3 x64) w44) w44 fun x65 w45 =>
 pGd (gB x62 true) (pN Try.prog (oBin .geq 3 (.tmp 65) (.const (.int .i64 0)) x65 (.int .i64 0)) w45) w45 fun x66 w46 =>
 pN Try.prog (oPick x62 x66 (.bool false)) w46 fun x67 w47 =>
 pGd (gB x67 true) (pN Try.prog (oFld 87 x12 1) w47) w47 fun x69 w48 =>
 pGd (gB x67 true) (pN Try.prog (oLoad 3 x69) w48) w48 fun x70 w49 =>
 pGd (gB x67 true) (pN Try.prog (oMv x0) w49) w49 fun x71 w50 =>
 pGd (gB x67 true) (pN Try.prog (oBin .lss 3 (.tmp 70) (.tmp 71) x70 x71) w50) w50 fun x72 w51 =>
 pN Try.prog (oPick x67 x72 (.bool false)) w51 fun x73 w52 =>
 pIf x73
 (pN Try.prog (oFld 87 x12 1) w52 fun x76 w53 =>
 pN Try.prog (oLoad 3 x76) w53 fun x77 w54 =>
 pN Try.prog (oFld 87 x12 3) w54 fun x78 w55 =>
 pN Try.prog (oLoad 26 x78) w55 fun x79 w56 =>
 pN Try.prog (oBin .and 26 (.tmp 79) (.const (.int .u32 1)) x79 (.int .u32 1)) w56 fun x80 w57 =>
 pN Try.prog (oConv 26 3 x80) w57 fun x81 w58 =>
 pN Try.prog (oCall 27 [x18, x16, x77, x81]) w58 fun x82 w59 =>
 pN Try.prog (oCall 44 [x82]) w59 fun x83 w60 =>
 pN Try.prog (oBin .neq 3 (.tmp 83) (.const (.int .i64 0)) x83 (.int .i64 0)) w60 fun x84 w61 =>
 pIf x84
 (Q (.tuple #[(.slice none 0 0), (.slice none 0 0), (.pointer none)]) w61)
 (pN Try.prog (oLoad 87 x12) w61 fun x86 w62 =>
 pN Try.prog (oBs 74 1 [(0, x86)]) w62 fun x87 w63 =>
 pN Try.prog (oBi .append #[74, 74] 74 [false, false] [l10c13, x87]) w63 fun x88 w64 =>
 I17 x88 w64))
 (I17 l10c13 w52)) ∧
 ∀ (_j17 : Env) (l10c17 : Value) (w65 : World), I17 l10c17 w65 →
 pN Try.prog (oBin .add 3 (.tmp 32) (.const (.int .i64 1)) v32l7 (.int .i64 1)) w65 fun x89 w66 =>
 (L7 l10c17 x89 w66 ∧ m7 l10c17 x89 w66 < m7 l10l7 v32l7 w14))
 (pN Try.prog (oCall 20 [x18]) w15 fun x91 w67 =>
 Q (.tuple #[x91, l10l7, x16]) w67))
noncomputable def pithlaw08_encoded.c : Code := match Try.f69.body with | some c => c | none => .skip
theorem pithlaw08_encoded.eq [Pan] (x0 : Value) (x1 : Value) (w : World) (Q : Value → World → Prop) : cw Try.prog pithlaw08_encoded.H pithlaw08_encoded.c (endQ Try.prog Try.f69.results.toList Q) (argsE [x0, x1]) w = pithlaw08_encoded.F x0 x1 w Q := by kernel_rfl
theorem pithlaw08_encoded.calls [Pan] {x0 : Value} {x1 : Value} {w : World} {Q : Value → World → Prop} (h : pithlaw08_encoded.F x0 x1 w Q) : Calls Try.prog 69 #[x0, x1] w (retP Q) :=
  calls_of_cw (H := pithlaw08_encoded.H) (c := pithlaw08_encoded.c) (args := [x0, x1]) mixed Try.func69 (by kernel_rfl) (by kernel_rfl) (Nat.le_of_ble_eq_true (by kernel_rfl)) ((pithlaw08_encoded.eq x0 x1 w Q).mpr h)

/-! pithlaw08_low: pith/pithlaw08.low; temporaries: 0:v 1:n 2:v 3:n -/
def pithlaw08_low.H : Hints := { cut := fun  | _ => none, loop := fun  | _ => ([], 0), order := fun  | _ => [] }
def pithlaw08_low.F [Pan] (x0 : Value) (x1 : Value) (w : World) (Q : Value → World → Prop) : Prop :=
 pN Try.prog (oBin .geq 3 (.tmp 5) (.const (.int .i64 32)) x1 (.int .i64 32)) w fun x6 w1 =>
 pIf x6
 (Q x0 w1)
 (pN Try.prog (oBin .shl 26 (.const (.int .u32 1)) (.tmp 9) (.int .u32 1) x1) w1 fun x10 w2 =>
 pN Try.prog (oBin .sub 26 (.tmp 10) (.const (.int .u32 1)) x10 (.int .u32 1)) w2 fun x11 w3 =>
 pN Try.prog (oBin .and 26 (.tmp 8) (.tmp 11) x0 x11) w3 fun x12 w4 =>
 Q x12 w4)
noncomputable def pithlaw08_low.c : Code := match Try.f70.body with | some c => c | none => .skip
theorem pithlaw08_low.eq [Pan] (x0 : Value) (x1 : Value) (w : World) (Q : Value → World → Prop) : cw Try.prog pithlaw08_low.H pithlaw08_low.c (endQ Try.prog Try.f70.results.toList Q) (argsE [x0, x1]) w = pithlaw08_low.F x0 x1 w Q := by kernel_rfl
theorem pithlaw08_low.calls [Pan] {x0 : Value} {x1 : Value} {w : World} {Q : Value → World → Prop} (h : pithlaw08_low.F x0 x1 w Q) : Calls Try.prog 70 #[x0, x1] w (retP Q) :=
  calls_of_cw (H := pithlaw08_low.H) (c := pithlaw08_low.c) (args := [x0, x1]) mixed Try.func70 (by kernel_rfl) (by kernel_rfl) (Nat.le_of_ble_eq_true (by kernel_rfl)) ((pithlaw08_low.eq x0 x1 w Q).mpr h)

end Go.Proofs.Ytoejaggkedlfmaa

namespace Go.Proofs.Ytoejaggkedlfmaa
open Go
set_option linter.unusedSimpArgs false
set_option linter.unnecessarySimpa false
set_option linter.unusedSectionVars false
set_option linter.unusedVariables false
set_option maxRecDepth 100000

/-! rcdec_New: pith/rcdec.New; temporaries: 0:b 1:b 4:d 5:_ 6:c -/
def rcdec_New.H : Hints := { cut := fun  | _ => none, loop := fun | 5 => ([18], 68719214656) | _ => ([], 0), order := fun | 9 => [(0, 0), (1, 1), (2, 3), (3, 7), (4, 15), (5, 31), (6, 63), (7, 127), (8, 255), (9, 511), (10, 1023), (11, 2047), (12, 4095), (13, 8191), (14, 16383), (15, 32767), (16, 65535)] | _ => [] }
def rcdec_New.F [Pan] (x0 : Value) (w : World) (Q : Value → World → Prop) : Prop :=
 pN Try.prog (oBi .len #[29] 3 [false] [x0]) w fun x8 w1 =>
 pN Try.prog (oBin .lss 3 (.tmp 8) (.const (.int .i64 5)) x8 (.int .i64 5)) w1 fun x9 w2 =>
 pIf x9
 (Q (.tuple #[(.pointer none), (.int .i64 1)]) w2)
 (pN Try.prog (oBi .append #[29, 29] 29 [true, false] [(.slice none 0 0), x0]) w2 fun x11 w3 =>
 pN Try.prog (oBuild 147 [(0, (.int .i64 5)), (1, (.int .u32 4294967295))]) w3 fun x12 w4 =>
 pN Try.prog (oBuild 149 [(0, x11), (1, x12)]) w4 fun x13 w5 =>
 pN Try.prog (oBox 149 x13) w5 fun x14 w6 =>
 pN Try.prog (oSl 29 x0 (some (.int .i64 1)) (some (.int .i64 5)) none) w6 fun x16 w7 =>
 pN Try.prog (oBi .len #[29] 3 [false] [x16]) w7 fun x17 w8 =>
 ∃ (L5 : Value → World → Prop) (m5 : Value → World → Nat),
 L5 (.int .i64 0) w8 ∧
 ∀ (_k5 : Env) (v18l5 : Value) (w9 : World), L5 v18l5 w9 →
 pN Try.prog (oBin .lss 3 (.tmp 18) (.tmp 17) v18l5 x17) w9 fun x19 w10 =>
 pIf x19
 (pN Try.prog (oIdx 29 x16 v18l5) w10 fun x20 w11 =>
 pN Try.prog (oLoad 5 x20) w11 fun x21 w12 =>
 pN Try.prog (oNil x14) w12 fun x24 w13 =>
 pN Try.prog (oFld 149 x24 1) w13 fun x25 w14 =>
 pN Try.prog (oFld 147 x25 2) w14 fun x26 w15 =>
 pN Try.prog (oLoad 26 x26) w15 fun x27 w16 =>
 pN Try.prog (oBin .shl 26 (.tmp 27) (.const (.int .u64 8)) x27 (.int .u64 8)) w16 fun x28 w17 =>
 pN Try.prog (oConv 5 26 x21) w17 fun x30 w18 =>
 pN Try.prog (oBin .or 26 (.tmp 28) (.tmp 30) x28 x30) w18 fun x31 w19 =>
 pN Try.prog (oNil x14) w19 fun x32 w20 =>
 pN Try.prog (oFld 149 x32 1) w20 fun x33 w21 =>
 pN Try.prog (oFld 147 x33 2) w21 fun x34 w22 =>
 pN Try.prog (oStore 26 x34 x31) w22 fun _ w23 =>
 pN Try.prog (oBin .add 3 (.tmp 18) (.const (.int .i64 1)) v18l5 (.int .i64 1)) w23 fun x35 w24 =>
 (L5 x35 w24 ∧ m5 x35 w24 < m5 v18l5 w9))
 (pDr w10 fun w25 =>
 pA Try.prog (oIdx 29 x0 (.int .i64 0)) fun x37 =>
 pL Try.prog (oLoad 5 x37) w25 fun x38 =>
 pA Try.prog (oBin .neq 5 (.tmp 38) (.const (.int .u8 0)) x38 (bv 0)) fun x39 =>
 gA (gB x39 false) (pA Try.prog (oMv x14)) fun x41 =>
 gA (gB x39 false) (pA Try.prog (oNil x41)) fun x42 =>
 gA (gB x39 false) (pA Try.prog (oFld 149 x42 1)) fun x43 =>
 gA (gB x39 false) (pA Try.prog (oFld 147 x43 2)) fun x44 =>
 gA (gB x39 false) (pL Try.prog (oLoad 26 x44) w25) fun x45 =>
 gA (gB x39 false) (pA Try.prog (oMv x14)) fun x46 =>
 gA (gB x39 false) (pA Try.prog (oNil x46)) fun x47 =>
 gA (gB x39 false) (pA Try.prog (oFld 149 x47 1)) fun x48 =>
 gA (gB x39 false) (pA Try.prog (oFld 147 x48 1)) fun x49 =>
 gA (gB x39 false) (pL Try.prog (oLoad 26 x49) w25) fun x50 =>
 gA (gB x39 false) (pA Try.prog (oBin .eql 26 (.tmp 45) (.tmp 50) x45 x50)) fun x51 =>
 pA Try.prog (oPick x39 (.bool true) x51) fun x52 =>
 pIf x52
 (Q (.tuple #[(.pointer none), (.int .i64 2)]) w25)
 (Q (.tuple #[x14, (.int .i64 0)]) w25)))
noncomputable def rcdec_New.c : Code := match Try.f42.body with | some c => c | none => .skip
theorem rcdec_New.eq [Pan] (x0 : Value) (w : World) (Q : Value → World → Prop) : cw Try.prog rcdec_New.H rcdec_New.c (endQ Try.prog Try.f42.results.toList Q) (argsE [x0]) w = rcdec_New.F x0 w Q := by kernel_rfl
theorem rcdec_New.calls [Pan] {x0 : Value} {w : World} {Q : Value → World → Prop} (h : rcdec_New.F x0 w Q) : Calls Try.prog 42 #[x0] w (retP Q) :=
  calls_of_cw (H := rcdec_New.H) (c := rcdec_New.c) (args := [x0]) mixed Try.func42 (by kernel_rfl) (by kernel_rfl) (Nat.le_of_ble_eq_true (by kernel_rfl)) ((rcdec_New.eq x0 w Q).mpr h)

/-! rcdec_Decoder_Direct: (*pith/rcdec.Decoder).Direct; temporaries: 0:d 1:n 2:d 3:n 4:v 5:err 6:half -/
def rcdec_Decoder_Direct.H : Hints := { cut := fun | 11 => some ([], 281474439839744) | 13 => some ([], 71776119061217280) | 15 => some ([], 9223372036852678720) | _ => none, loop := fun | 5 => ([19], 18446744073709027392) | _ => ([], 0), order := fun  | _ => [] }
noncomputable def rcdec_Decoder_Direct.c : Code := match Try.f47.body with | some c => c | none => .skip
def rcdec_Decoder_Direct.F [Pan] (x0 : Value) (x1 : Value) (w : World) (Q : Value → World → Prop) : Prop :=
 pN Try.prog (oBox 75 x0) w fun x2 w1 =>
 pN Try.prog (oAlloc 26) w1 fun x4 w2 =>
 pN Try.prog (oAlloc 27) w2 fun x5 w3 =>
 pN Try.prog (oBin .lss 3 (.tmp 7) (.const (.int .i64 0)) x1 (.int .i64 0)) w3 fun x8 w4 =>
 pGd (gB x8 false) (pN Try.prog (oMv x1) w4) w4 fun x10 w5 =>
 pGd (gB x8 false) (pN Try.prog (oBin .gtr 3 (.tmp 10) (.const (.int .i64 32)) x10 (.int .i64 32)) w5) w5 fun x11 w6 =>
 pN Try.prog (oPick x8 (.bool true) x11) w6 fun x12 w7 =>
 pIf x12
 (pN Try.prog (oStore 26 x4 (.int .u32 0)) w7 fun _ w8 =>
 pN Try.prog (oStore 27 x5 (.int .i64 7)) w8 fun _ w9 =>
 pL Try.prog (oRes 26 x4) w9 fun r4 =>
 pL Try.prog (oRes 27 x5) w9 fun r5 =>
 Q (.tuple #[r4, r5]) w9)
 (pN Try.prog (oFn (.func 89) [] [x2, x5, x4]) w7 fun x13 w10 =>
 pN Try.prog (oLoad 75 x2) w10 fun x14 w11 =>
 pN Try.prog (oNil x14) w11 fun x15 w12 =>
 pN Try.prog (oFld 149 x15 1) w12 fun x16 w13 =>
 pN Try.prog (oLoad 147 x16) w13 fun x17 w14 =>
 pDf Try.prog (oDf x13 [x17]) w14 fun d =>
 ∃ Z : Pan, (∀ (ch : List PanicEntry) (w15 : World), Z.z ch w15 → dE Try.prog d (.panicking ch) w15 fun w16 =>
 pL Try.prog (oRes 26 x4) w16 fun r4 =>
 pL Try.prog (oRes 27 x5) w16 fun r5 =>
 Q (.tuple #[r4, r5]) w16) ∧
 (∃ (L5 : Value → World → Prop) (m5 : Value → World → Nat),
 L5 (.int .i64 0) w14 ∧
 ∀ (_k5 : Env) (v19l5 : Value) (w17 : World), L5 v19l5 w17 →
 pN Try.prog (oBin .lss 3 (.tmp 19) (.tmp 18) v19l5 x1) w17 fun x20 w18 =>
 pIf x20
 (∃ I15 : World → Prop,
 (pN Try.prog (oLoad 75 x2) w18 fun x21 w19 =>
 pN Try.prog (oNil x21) w19 fun x22 w20 =>
 pN Try.prog (oFld 149 x22 1) w20 fun x23 w21 =>
 pN Try.prog (oFld 147 x23 1) w21 fun x24 w22 =>
 pN Try.prog (oLoad 26 x24) w22 fun x25 w23 =>
 pN Try.prog (oBin .quo 26 (.tmp 25) (.const (.int .u32 2)) x25 (.int .u32 2)) w23 fun x26 w24 =>
 pN Try.prog (oLoad 26 x4) w24 fun x27 w25 =>
 pN Try.prog (oBin .shl 26 (.tmp 27) (.const (.int .u64 1)) x27 (.int .u64 1)) w25 fun x28 w26 =>
 pN Try.prog (oStore 26 x4 x28) w26 fun _ w27 =>
 ∃ I11 : World → Prop,
 (pN Try.prog (oLoad 75 x2) w27 fun x29 w28 =>
 pN Try.prog (oNil x29) w28 fun x30 w29 =>
 pN Try.prog (oFld 149 x30 1) w29 fun x31 w30 =>
 pN Try.prog (oFld 147 x31 2) w30 fun x32 w31 =>
 pN Try.prog (oLoad 26 x32) w31 fun x33 w32 =>
 pN Try.prog (oBin .geq 26 (.tmp 33) (.tmp 34) x33 x26) w32 fun x35 w33 =>
 pIf x35
 (pN Try.prog (oLoad 75 x2) w33 fun x36 w34 =>
 pN Try.prog (oNil x36) w34 fun x37 w35 =>
 pN Try.prog (oFld 149 x37 1) w35 fun x38 w36 =>
 pN Try.prog (oFld 147 x38 2) w36 fun x39 w37 =>
 pN Try.prog (oLoad 26 x39) w37 fun x40 w38 =>
 pN Try.prog (oBin .sub 26 (.tmp 40) (.tmp 41) x40 x26) w38 fun x42 w39 =>
 pN Try.prog (oNil x36) w39 fun x43 w40 =>
 pN Try.prog (oFld 149 x43 1) w40 fun x44 w41 =>
 pN Try.prog (oFld 147 x44 2) w41 fun x45 w42 =>
 pN Try.prog (oStore 26 x45 x42) w42 fun _ w43 =>
 pN Try.prog (oLoad 26 x4) w43 fun x46 w44 =>
 pN Try.prog (oBin .or 26 (.tmp 46) (.const (.int .u32 1)) x46 (.int .u32 1)) w44 fun x47 w45 =>
 pN Try.prog (oStore 26 x4 x47) w45 fun _ w46 =>
 I11 w46)
 (I11 w33)) ∧
 ∀ (_j11 : Env) (w47 : World), I11 w47 →
 ∃ I13 : World → Prop,
 (pN Try.prog (oLoad 75 x2) w47 fun x48 w48 =>
 pN Try.prog (oNil x48) w48 fun x49 w49 =>
 pN Try.prog (oFld 149 x49 1) w49 fun x50 w50 =>
 pN Try.prog (oFld 147 x50 2) w50 fun x51 w51 =>
 pN Try.prog (oLoad 26 x51) w51 fun x52 w52 =>
 pN Try.prog (oBin .eql 26 (.tmp 52) (.tmp 53) x52 x26) w52 fun x54 w53 =>
 pIf x54
 (pN Try.prog (oIface 154 (.int .i64 2)) w53 fun x55 w54 =>
 pN Try.prog (oPanic x55) w54 fun _ w55 =>
 I13 w55)
 (I13 w53)) ∧
 ∀ (_j13 : Env) (w56 : World), I13 w56 →
 pN Try.prog (oLoad 75 x2) w56 fun x56 w57 =>
 pN Try.prog (oNil x56) w57 fun x58 w58 =>
 pN Try.prog (oFld 149 x58 1) w58 fun x59 w59 =>
 pN Try.prog (oFld 147 x59 1) w59 fun x60 w60 =>
 pN Try.prog (oStore 26 x60 x26) w60 fun _ w61 =>
 pN Try.prog (oLoad 75 x2) w61 fun x61 w62 =>
 pN Try.prog (oCall 91 [x61]) w62 fun _ w63 =>
 I15 w63) ∧
 ∀ (_j15 : Env) (w64 : World), I15 w64 →
 pN Try.prog (oBin .add 3 (.tmp 19) (.const (.int .i64 1)) v19l5 (.int .i64 1)) w64 fun x63 w65 =>
 (L5 x63 w65 ∧ m5 x63 w65 < m5 v19l5 w17))
 (pN Try.prog (oLoad 26 x4) w18 fun x64 w66 =>
 pN Try.prog (oStore 26 x4 x64) w66 fun _ w67 =>
 pN Try.prog (oStore 27 x5 (.int .i64 0)) w67 fun _ w68 =>
 dE Try.prog d .returning w68 fun w69 =>
 pL Try.prog (oRes 26 x4) w69 fun r4 =>
 pL Try.prog (oRes 27 x5) w69 fun r5 =>
 Q (.tuple #[r4, r5]) w69)))
theorem rcdec_Decoder_Direct.eq [Pan] (x0 : Value) (x1 : Value) (w : World) (Q : Value → World → Prop) : cwD Try.prog rcdec_Decoder_Direct.H Try.f47.results.toList Q rcdec_Decoder_Direct.c (argsE [x0, x1]) w = rcdec_Decoder_Direct.F x0 x1 w Q := by kernel_rfl
theorem rcdec_Decoder_Direct.calls [Pan] {x0 : Value} {x1 : Value} {w : World} {Q : Value → World → Prop} (h : rcdec_Decoder_Direct.F x0 x1 w Q) : Calls Try.prog 47 #[x0, x1] w (retP Q) :=
  calls_of_cwD (H := rcdec_Decoder_Direct.H) (c := rcdec_Decoder_Direct.c) (args := [x0, x1]) mixed 6 Try.func47 (by kernel_rfl) (by kernel_rfl) (by kernel_rfl) (Nat.le_of_ble_eq_true (by kernel_rfl)) ((rcdec_Decoder_Direct.eq x0 x1 w Q).mpr h)

/-! rcdec_Decoder_Bit: (*pith/rcdec.Decoder).Bit; temporaries: 0:d 1:s 2:i 3:d 4:s 5:i 6:bit 7:err 8:p -/
def rcdec_Decoder_Bit.H : Hints := { cut := fun | 7 => some ([], 4286578688) | _ => none, loop := fun  | _ => ([], 0), order := fun | 3 => [(0, 0), (1, 1), (2, 3)] | 5 => [(0, 0), (1, 1), (2, 3), (3, 7), (4, 15), (5, 31), (6, 63), (7, 127), (8, 255)] | _ => [] }
noncomputable def rcdec_Decoder_Bit.c : Code := match Try.f49.body with | some c => c | none => .skip
def rcdec_Decoder_Bit.F [Pan] (x0 : Value) (x1 : Value) (x2 : Value) (w : World) (Q : Value → World → Prop) : Prop :=
 pN Try.prog (oBox 75 x0) w fun x3 w1 =>
 pN Try.prog (oBox 34 x1) w1 fun x4 w2 =>
 pN Try.prog (oBox 3 x2) w2 fun x5 w3 =>
 pN Try.prog (oAlloc 3) w3 fun x6 w4 =>
 pN Try.prog (oAlloc 27) w4 fun x7 w5 =>
 pN Try.prog (oLoad 34 x4) w5 fun x10 w6 =>
 pN Try.prog (oLoad 3 x5) w6 fun x11 w7 =>
 pN Try.prog (oCall 28 [x10, x11]) w7 fun x12 w8 =>
 pN Try.prog (oExt x12 0) w8 fun x13 w9 =>
 pN Try.prog (oExt x12 1) w9 fun x14 w10 =>
 pN Try.prog (oStore 27 x7 x14) w10 fun _ w11 =>
 pN Try.prog (oLoad 27 x7) w11 fun x15 w12 =>
 pN Try.prog (oBin .neq 27 (.tmp 15) (.const (.int .i64 0)) x15 (.int .i64 0)) w12 fun x16 w13 =>
 pIf x16
 (pDr w13 fun w14 =>
 pL Try.prog (oLoad 27 x7) w14 fun x17 =>
 pN Try.prog (oStore 3 x6 (.int .i64 0)) w14 fun _ w15 =>
 ((Sem.run Try.prog (oLoad 27 x7) w15 = .ok (.value x17) w15) ∧ True) ∧ (pN Try.prog (oStore 27 x7 x17) w15 fun _ w16 =>
 (True) ∧ (pL Try.prog (oRes 3 x6) w16 fun r6 =>
 pL Try.prog (oRes 27 x7) w16 fun r7 =>
 Q (.tuple #[r6, r7]) w16)))
 (pN Try.prog (oFn (.func 94) [] [x3, x7, x6, x4, x5]) w13 fun x18 w17 =>
 pN Try.prog (oLoad 75 x3) w17 fun x19 w18 =>
 pN Try.prog (oNil x19) w18 fun x20 w19 =>
 pN Try.prog (oFld 149 x20 1) w19 fun x21 w20 =>
 pN Try.prog (oLoad 147 x21) w20 fun x22 w21 =>
 pDf Try.prog (oDf x18 [x22]) w21 fun d =>
 ∃ Z : Pan, (∀ (ch : List PanicEntry) (w22 : World), Z.z ch w22 → dE Try.prog d (.panicking ch) w22 fun w23 =>
 pL Try.prog (oRes 3 x6) w23 fun r6 =>
 pL Try.prog (oRes 27 x7) w23 fun r7 =>
 Q (.tuple #[r6, r7]) w23) ∧
 (∃ I7 : World → Prop,
 (pDr w21 fun w24 =>
 pL Try.prog (oLoad 75 x3) w24 fun x23 =>
 pL Try.prog (oLoad 75 x3) w24 fun x24 =>
 pA Try.prog (oNil x24) fun x25 =>
 pA Try.prog (oFld 149 x25 1) fun x26 =>
 pA Try.prog (oFld 147 x26 1) fun x27 =>
 pL Try.prog (oLoad 26 x27) w24 fun x28 =>
 pN Try.prog (oCall 77 [x28, x13]) w24 fun x30 w25 =>
 ((Sem.run Try.prog (oLoad 75 x3) w25 = .ok (.value x23) w25) ∧ True) ∧ (pN Try.prog (oCall 95 [x23, x30]) w25 fun x31 w26 =>
 (True) ∧ (pIf x31
 (pN Try.prog (oStore 3 x6 (.int .i64 1)) w26 fun _ w27 =>
 I7 w27)
 (I7 w26)))) ∧
 ∀ (_j7 : Env) (w28 : World), I7 w28 →
 pN Try.prog (oLoad 75 x3) w28 fun x32 w29 =>
 pN Try.prog (oCall 91 [x32]) w29 fun _ w30 =>
 pN Try.prog (oLoad 3 x6) w30 fun x34 w31 =>
 pN Try.prog (oStore 3 x6 x34) w31 fun _ w32 =>
 pN Try.prog (oStore 27 x7 (.int .i64 0)) w32 fun _ w33 =>
 dE Try.prog d .returning w33 fun w34 =>
 pL Try.prog (oRes 3 x6) w34 fun r6 =>
 pL Try.prog (oRes 27 x7) w34 fun r7 =>
 Q (.tuple #[r6, r7]) w34))
theorem rcdec_Decoder_Bit.eq [Pan] (x0 : Value) (x1 : Value) (x2 : Value) (w : World) (Q : Value → World → Prop) : cwD Try.prog rcdec_Decoder_Bit.H Try.f49.results.toList Q rcdec_Decoder_Bit.c (argsE [x0, x1, x2]) w = rcdec_Decoder_Bit.F x0 x1 x2 w Q := by kernel_rfl
theorem rcdec_Decoder_Bit.calls [Pan] {x0 : Value} {x1 : Value} {x2 : Value} {w : World} {Q : Value → World → Prop} (h : rcdec_Decoder_Bit.F x0 x1 x2 w Q) : Calls Try.prog 49 #[x0, x1, x2] w (retP Q) :=
  calls_of_cwD (H := rcdec_Decoder_Bit.H) (c := rcdec_Decoder_Bit.c) (args := [x0, x1, x2]) mixed 8 Try.func49 (by kernel_rfl) (by kernel_rfl) (by kernel_rfl) (Nat.le_of_ble_eq_true (by kernel_rfl)) ((rcdec_Decoder_Bit.eq x0 x1 x2 w Q).mpr h)

/-! rcdec_Decoder_Used: (*pith/rcdec.Decoder).Used; temporaries: 0:d 1:d -/
def rcdec_Decoder_Used.H : Hints := { cut := fun  | _ => none, loop := fun  | _ => ([], 0), order := fun  | _ => [] }
def rcdec_Decoder_Used.F [Pan] (x0 : Value) (w : World) (Q : Value → World → Prop) : Prop :=
 pN Try.prog (oNil x0) w fun x4 w1 =>
 pN Try.prog (oFld 149 x4 1) w1 fun x5 w2 =>
 pN Try.prog (oFld 147 x5 0) w2 fun x6 w3 =>
 pN Try.prog (oLoad 3 x6) w3 fun x7 w4 =>
 Q x7 w4
noncomputable def rcdec_Decoder_Used.c : Code := match Try.f51.body with | some c => c | none => .skip
theorem rcdec_Decoder_Used.eq [Pan] (x0 : Value) (w : World) (Q : Value → World → Prop) : cw Try.prog rcdec_Decoder_Used.H rcdec_Decoder_Used.c (endQ Try.prog Try.f51.results.toList Q) (argsE [x0]) w = rcdec_Decoder_Used.F x0 w Q := by kernel_rfl
theorem rcdec_Decoder_Used.calls [Pan] {x0 : Value} {w : World} {Q : Value → World → Prop} (h : rcdec_Decoder_Used.F x0 w Q) : Calls Try.prog 51 #[x0] w (retP Q) :=
  calls_of_cw (H := rcdec_Decoder_Used.H) (c := rcdec_Decoder_Used.c) (args := [x0]) mixed Try.func51 (by kernel_rfl) (by kernel_rfl) (Nat.le_of_ble_eq_true (by kernel_rfl)) ((rcdec_Decoder_Used.eq x0 w Q).mpr h)

/-! rcdec_Decoder_Done: (*pith/rcdec.Decoder).Done; temporaries: 0:d 1:d -/
def rcdec_Decoder_Done.H : Hints := { cut := fun  | _ => none, loop := fun  | _ => ([], 0), order := fun | 1 => [(0, 0), (1, 1), (2, 3), (3, 7), (4, 15), (5, 31), (6, 63), (7, 127), (8, 255), (9, 511), (10, 1023), (11, 2047), (12, 4095), (13, 8191), (14, 16383), (15, 32767), (16, 65535), (17, 131071), (18, 262143), (19, 524287)] | _ => [] }
def rcdec_Decoder_Done.F [Pan] (x0 : Value) (w : World) (Q : Value → World → Prop) : Prop :=
 pDr w fun w1 =>
 pA Try.prog (oNil x0) fun x4 =>
 pA Try.prog (oFld 149 x4 1) fun x5 =>
 pA Try.prog (oFld 147 x5 0) fun x6 =>
 pL Try.prog (oLoad 3 x6) w1 fun x7 =>
 pA Try.prog (oNil x0) fun x9 =>
 pA Try.prog (oFld 149 x9 0) fun x10 =>
 pL Try.prog (oLoad 29 x10) w1 fun x11 =>
 pA Try.prog (oBi .len #[29] 3 [false] [x11]) fun x12 =>
 pA Try.prog (oBin .eql 3 (.tmp 7) (.tmp 12) x7 x12) fun x13 =>
 gA (gB x13 true) (pA Try.prog (oMv x0)) fun x15 =>
 gA (gB x13 true) (pA Try.prog (oNil x15)) fun x16 =>
 gA (gB x13 true) (pA Try.prog (oFld 149 x16 1)) fun x17 =>
 gA (gB x13 true) (pA Try.prog (oFld 147 x17 2)) fun x18 =>
 gA (gB x13 true) (pL Try.prog (oLoad 26 x18) w1) fun x19 =>
 gA (gB x13 true) (pA Try.prog (oBin .eql 26 (.tmp 19) (.const (.int .u32 0)) x19 (.int .u32 0))) fun x20 =>
 pA Try.prog (oPick x13 x20 (.bool false)) fun x21 =>
 Q x21 w1
noncomputable def rcdec_Decoder_Done.c : Code := match Try.f53.body with | some c => c | none => .skip
theorem rcdec_Decoder_Done.eq [Pan] (x0 : Value) (w : World) (Q : Value → World → Prop) : cw Try.prog rcdec_Decoder_Done.H rcdec_Decoder_Done.c (endQ Try.prog Try.f53.results.toList Q) (argsE [x0]) w = rcdec_Decoder_Done.F x0 w Q := by kernel_rfl
theorem rcdec_Decoder_Done.calls [Pan] {x0 : Value} {w : World} {Q : Value → World → Prop} (h : rcdec_Decoder_Done.F x0 w Q) : Calls Try.prog 53 #[x0] w (retP Q) :=
  calls_of_cw (H := rcdec_Decoder_Done.H) (c := rcdec_Decoder_Done.c) (args := [x0]) mixed Try.func53 (by kernel_rfl) (by kernel_rfl) (Nat.le_of_ble_eq_true (by kernel_rfl)) ((rcdec_Decoder_Done.eq x0 w Q).mpr h)

/-! rcdec_Decoder_Direct_c1: (*pith/rcdec.Decoder).Direct$1; temporaries: 0:was 4:was -/
def rcdec_Decoder_Direct_c1.H : Hints := { cut := fun  | _ => none, loop := fun  | _ => ([], 0), order := fun | 1 => [(0, 0), (1, 1), (2, 3), (3, 7), (4, 15)] | _ => [] }
noncomputable def rcdec_Decoder_Direct_c1.c : Code := match Try.f89.body with | some c => c | none => .skip
noncomputable def rcdec_Decoder_Direct_c1.d (rv : Value) : Code := recCode 1 2 rv rcdec_Decoder_Direct_c1.c
def rcdec_Decoder_Direct_c1.F (rv : Value) (x0 : Value) (x1 : Value) (x2 : Value) (x3 : Value) (w : World) (Q : Value → World → Prop) : Prop :=
 pN Try.prog (oBox 147 x0) w fun x4 w1 =>
 pDr w1 fun w2 =>
 pL Try.prog (oLoad 75 x1) w2 fun x5 =>
 pL Try.prog (oLoad 147 x4) w2 fun x6 =>
 pN Try.prog (oCall 90 [x5, x6, rv]) w2 fun x8 w3 =>
 (True) ∧ (pN Try.prog (oStore 27 x2 x8) w3 fun _ w4 =>
 (True) ∧ (pN Try.prog (oLoad 27 x2) w4 fun x9 w5 =>
 pN Try.prog (oBin .neq 27 (.tmp 9) (.const (.int .i64 0)) x9 (.int .i64 0)) w5 fun x10 w6 =>
 pIf x10
 (pN Try.prog (oStore 26 x3 (.int .u32 0)) w6 fun _ w7 =>
 Q (.tuple #[]) w7)
 (Q (.tuple #[]) w6)))
theorem rcdec_Decoder_Direct_c1.eq (rv : Value) (x0 : Value) (x1 : Value) (x2 : Value) (x3 : Value) (w : World) (Q : Value → World → Prop) : cw Try.prog rcdec_Decoder_Direct_c1.H (rcdec_Decoder_Direct_c1.d rv) (endQ Try.prog Try.f89.results.toList Q) (argsE [x0, x1, x2, x3]) w = rcdec_Decoder_Direct_c1.F rv x0 x1 x2 x3 w Q := by kernel_rfl
theorem rcdec_Decoder_Direct_c1.panics {rv : Value} {older : List PanicEntry} {x0 : Value} {x1 : Value} {x2 : Value} {x3 : Value} {w : World} {Q : Value → World → Prop} (h : rcdec_Decoder_Direct_c1.F rv x0 x1 x2 x3 w Q) : CallsD Try.prog 89 #[x0, x1, x2, x3] (.panicking ({ v := rv, recovered := false } :: older)) w fun e u w => u = .panicking ({ v := rv, recovered := true } :: older) ∧ ∃ r, e = .returned r ∧ Q r w :=
  callsD_of_cw (H := rcdec_Decoder_Direct_c1.H) (c := rcdec_Decoder_Direct_c1.c) (c' := rcdec_Decoder_Direct_c1.d rv) (args := [x0, x1, x2, x3]) mixed (Or.inl ⟨older, rfl, rfl⟩) Try.func89 (by kernel_rfl) (rsp_of _ _ _ _ _ (by kernel_rfl)) (by kernel_rfl) (Nat.le_of_ble_eq_true (by kernel_rfl)) ((rcdec_Decoder_Direct_c1.eq rv x0 x1 x2 x3 w Q).mpr h)
theorem rcdec_Decoder_Direct_c1.idles {x0 : Value} {x1 : Value} {x2 : Value} {x3 : Value} {w : World} {Q : Value → World → Prop} (h : rcdec_Decoder_Direct_c1.F .nilIface x0 x1 x2 x3 w Q) : CallsD Try.prog 89 #[x0, x1, x2, x3] .returning w fun e u w => u = .returning ∧ ∃ r, e = .returned r ∧ Q r w :=
  callsD_of_cw (H := rcdec_Decoder_Direct_c1.H) (c := rcdec_Decoder_Direct_c1.c) (c' := rcdec_Decoder_Direct_c1.d .nilIface) (args := [x0, x1, x2, x3]) mixed (Or.inr ⟨rfl, rfl, rfl⟩) Try.func89 (by kernel_rfl) (rsp_of _ _ _ _ _ (by kernel_rfl)) (by kernel_rfl) (Nat.le_of_ble_eq_true (by kernel_rfl)) ((rcdec_Decoder_Direct_c1.eq .nilIface x0 x1 x2 x3 w Q).mpr h)

/-! rcdec_Decoder_back: (*pith/rcdec.Decoder).back; temporaries: 0:d 1:was 2:x 3:d 4:was 5:x 7:err 8:ok -/
def rcdec_Decoder_back.H : Hints := { cut := fun | 6 => some ([], 458752) | _ => none, loop := fun  | _ => ([], 0), order := fun  | _ => [] }
def rcdec_Decoder_back.F [Pan] (x0 : Value) (x1 : Value) (x2 : Value) (w : World) (Q : Value → World → Prop) : Prop :=
 pN Try.prog (oBox 147 x1) w fun x4 w1 =>
 pN Try.prog (oBin .eql 20 (.tmp 9) (.const .nilIface) x2 .nilIface) w1 fun x10 w2 =>
 pIf x10
 (Q (.int .i64 0) w2)
 (pN Try.prog (oAssert x2 20 154 true) w2 fun x13 w3 =>
 pN Try.prog (oExt x13 0) w3 fun x14 w4 =>
 pN Try.prog (oExt x13 1) w4 fun x15 w5 =>
 ∃ I6 : World → Prop,
 (pN Try.prog (oUn .not x15) w5 fun x17 w6 =>
 pIf x17
 (pN Try.prog (oPanic x2) w6 fun _ w7 =>
 I6 w7)
 (I6 w6)) ∧
 ∀ (_j6 : Env) (w8 : World), I6 w8 →
 pN Try.prog (oLoad 147 x4) w8 fun x20 w9 =>
 pN Try.prog (oNil x0) w9 fun x21 w10 =>
 pN Try.prog (oFld 149 x21 1) w10 fun x22 w11 =>
 pN Try.prog (oStore 147 x22 x20) w11 fun _ w12 =>
 Q x14 w12)
noncomputable def rcdec_Decoder_back.c : Code := match Try.f90.body with | some c => c | none => .skip
theorem rcdec_Decoder_back.eq [Pan] (x0 : Value) (x1 : Value) (x2 : Value) (w : World) (Q : Value → World → Prop) : cw Try.prog rcdec_Decoder_back.H rcdec_Decoder_back.c (endQ Try.prog Try.f90.results.toList Q) (argsE [x0, x1, x2]) w = rcdec_Decoder_back.F x0 x1 x2 w Q := by kernel_rfl
theorem rcdec_Decoder_back.calls [Pan] {x0 : Value} {x1 : Value} {x2 : Value} {w : World} {Q : Value → World → Prop} (h : rcdec_Decoder_back.F x0 x1 x2 w Q) : Calls Try.prog 90 #[x0, x1, x2] w (retP Q) :=
  calls_of_cw (H := rcdec_Decoder_back.H) (c := rcdec_Decoder_back.c) (args := [x0, x1, x2]) mixed Try.func90 (by kernel_rfl) (by kernel_rfl) (Nat.le_of_ble_eq_true (by kernel_rfl)) ((rcdec_Decoder_back.eq x0 x1 x2 w Q).mpr h)

/-! rcdec_Decoder_widen: (*pith/rcdec.Decoder).widen; temporaries: 0:d 1:d -/
def rcdec_Decoder_widen.H : Hints := { cut := fun | 3 => some ([], 1048320) | _ => none, loop := fun  | _ => ([], 0), order := fun | 1 => [(0, 0), (1, 1), (2, 3), (3, 7), (4, 15), (5, 31), (6, 63), (7, 127), (8, 255), (9, 511), (10, 1023)] | 4 => [(0, 0), (1, 1), (2, 3), (3, 7), (4, 15), (5, 31), (6, 63), (7, 127), (8, 255), (9, 511), (10, 1023), (11, 2047), (12, 4095), (13, 8191), (14, 16383), (15, 32767), (16, 65535), (17, 131071), (18, 262143), (19, 524287), (20, 1048575), (21, 2097151), (22, 4194303), (23, 8388607)] | _ => [] }
def rcdec_Decoder_widen.F [Pan] (x0 : Value) (w : World) (Q : Value → World → Prop) : Prop :=
 pN Try.prog (oNil x0) w fun x3 w1 =>
 pN Try.prog (oFld 149 x3 1) w1 fun x4 w2 =>
 pN Try.prog (oFld 147 x4 1) w2 fun x5 w3 =>
 pN Try.prog (oLoad 26 x5) w3 fun x6 w4 =>
 pN Try.prog (oBin .geq 26 (.tmp 6) (.const (.int .u32 16777216)) x6 (.int .u32 16777216)) w4 fun x7 w5 =>
 pIf x7
 (Q (.tuple #[]) w5)
 (∃ I3 : World → Prop,
 (pDr w5 fun w6 =>
 pA Try.prog (oNil x0) fun x9 =>
 pA Try.prog (oFld 149 x9 1) fun x10 =>
 pA Try.prog (oFld 147 x10 0) fun x11 =>
 pL Try.prog (oLoad 3 x11) w6 fun x12 =>
 pA Try.prog (oNil x0) fun x14 =>
 pA Try.prog (oFld 149 x14 0) fun x15 =>
 pL Try.prog (oLoad 29 x15) w6 fun x16 =>
 pA Try.prog (oBi .len #[29] 3 [false] [x16]) fun x17 =>
 pA Try.prog (oBin .eql 3 (.tmp 12) (.tmp 17) x12 x17) fun x18 =>
 pIf x18
 (pN Try.prog (oIface 154 (.int .i64 1)) w6 fun x19 w7 =>
 pN Try.prog (oPanic x19) w7 fun _ w8 =>
 I3 w8)
 (I3 w6)) ∧
 ∀ (_j3 : Env) (w9 : World), I3 w9 →
 pN Try.prog (oNil x0) w9 fun x21 w10 =>
 pN Try.prog (oFld 149 x21 1) w10 fun x22 w11 =>
 pN Try.prog (oFld 147 x22 1) w11 fun x23 w12 =>
 pN Try.prog (oLoad 26 x23) w12 fun x24 w13 =>
 pN Try.prog (oBin .shl 26 (.tmp 24) (.const (.int .u64 8)) x24 (.int .u64 8)) w13 fun x25 w14 =>
 pN Try.prog (oNil x0) w14 fun x26 w15 =>
 pN Try.prog (oFld 149 x26 1) w15 fun x27 w16 =>
 pN Try.prog (oFld 147 x27 1) w16 fun x28 w17 =>
 pN Try.prog (oStore 26 x28 x25) w17 fun _ w18 =>
 pDr w18 fun w19 =>
 pA Try.prog (oNil x0) fun x31 =>
 pA Try.prog (oFld 149 x31 1) fun x32 =>
 pA Try.prog (oFld 147 x32 2) fun x33 =>
 pL Try.prog (oLoad 26 x33) w19 fun x34 =>
 pA Try.prog (oBin .shl 26 (.tmp 34) (.const (.int .u64 8)) x34 (.int .u64 8)) fun x35 =>
 pA Try.prog (oNil x0) fun x37 =>
 pA Try.prog (oFld 149 x37 0) fun x38 =>
 pL Try.prog (oLoad 29 x38) w19 fun x39 =>
 pA Try.prog (oNil x0) fun x41 =>
 pA Try.prog (oFld 149 x41 1) fun x42 =>
 pA Try.prog (oFld 147 x42 0) fun x43 =>
 pL Try.prog (oLoad 3 x43) w19 fun x44 =>
 pA Try.prog (oIdx 29 x39 x44) fun x45 =>
 pL Try.prog (oLoad 5 x45) w19 fun x46 =>
 pL Try.prog (oConv 5 26 x46) w19 fun x47 =>
 pA Try.prog (oBin .or 26 (.tmp 35) (.tmp 47) x35 x47) fun x48 =>
 pA Try.prog (oNil x0) fun x49 =>
 pA Try.prog (oFld 149 x49 1) fun x50 =>
 pA Try.prog (oFld 147 x50 2) fun x51 =>
 pN Try.prog (oStore 26 x51 x48) w19 fun _ w20 =>
 (True) ∧ (pN Try.prog (oNil x0) w20 fun x53 w21 =>
 pN Try.prog (oFld 149 x53 1) w21 fun x54 w22 =>
 pN Try.prog (oFld 147 x54 0) w22 fun x55 w23 =>
 pN Try.prog (oLoad 3 x55) w23 fun x56 w24 =>
 pN Try.prog (oBin .add 3 (.tmp 56) (.const (.int .i64 1)) x56 (.int .i64 1)) w24 fun x57 w25 =>
 pN Try.prog (oNil x0) w25 fun x58 w26 =>
 pN Try.prog (oFld 149 x58 1) w26 fun x59 w27 =>
 pN Try.prog (oFld 147 x59 0) w27 fun x60 w28 =>
 pN Try.prog (oStore 3 x60 x57) w28 fun _ w29 =>
 Q (.tuple #[]) w29))
noncomputable def rcdec_Decoder_widen.c : Code := match Try.f91.body with | some c => c | none => .skip
theorem rcdec_Decoder_widen.eq [Pan] (x0 : Value) (w : World) (Q : Value → World → Prop) : cw Try.prog rcdec_Decoder_widen.H rcdec_Decoder_widen.c (endQ Try.prog Try.f91.results.toList Q) (argsE [x0]) w = rcdec_Decoder_widen.F x0 w Q := by kernel_rfl
theorem rcdec_Decoder_widen.calls [Pan] {x0 : Value} {w : World} {Q : Value → World → Prop} (h : rcdec_Decoder_widen.F x0 w Q) : Calls Try.prog 91 #[x0] w (retP Q) :=
  calls_of_cw (H := rcdec_Decoder_widen.H) (c := rcdec_Decoder_widen.c) (args := [x0]) mixed Try.func91 (by kernel_rfl) (by kernel_rfl) (Nat.le_of_ble_eq_true (by kernel_rfl)) ((rcdec_Decoder_widen.eq x0 w Q).mpr h)

/-! rcdec_Decoder_Bit_c1: (*pith/rcdec.Decoder).Bit$1; temporaries: 0:was 6:was -/
def rcdec_Decoder_Bit_c1.H : Hints := { cut := fun  | _ => none, loop := fun  | _ => ([], 0), order := fun | 1 => [(0, 0), (1, 1), (2, 3), (3, 7), (4, 15)] | _ => [] }
noncomputable def rcdec_Decoder_Bit_c1.c : Code := match Try.f94.body with | some c => c | none => .skip
noncomputable def rcdec_Decoder_Bit_c1.d (rv : Value) : Code := recCode 1 2 rv rcdec_Decoder_Bit_c1.c
def rcdec_Decoder_Bit_c1.F (rv : Value) (x0 : Value) (x1 : Value) (x2 : Value) (x3 : Value) (x4 : Value) (x5 : Value) (w : World) (Q : Value → World → Prop) : Prop :=
 pN Try.prog (oBox 147 x0) w fun x6 w1 =>
 pDr w1 fun w2 =>
 pL Try.prog (oLoad 75 x1) w2 fun x7 =>
 pL Try.prog (oLoad 147 x6) w2 fun x8 =>
 pN Try.prog (oCall 90 [x7, x8, rv]) w2 fun x10 w3 =>
 (True) ∧ (pN Try.prog (oStore 27 x2 x10) w3 fun _ w4 =>
 (True) ∧ (pN Try.prog (oLoad 27 x2) w4 fun x11 w5 =>
 pN Try.prog (oBin .neq 27 (.tmp 11) (.const (.int .i64 0)) x11 (.int .i64 0)) w5 fun x12 w6 =>
 pIf x12
 (pN Try.prog (oStore 3 x3 (.int .i64 0)) w6 fun _ w7 =>
 Q (.tuple #[]) w7)
 (pN Try.prog (oLoad 34 x4) w6 fun x13 w8 =>
 pN Try.prog (oLoad 3 x5) w8 fun x14 w9 =>
 pN Try.prog (oLoad 3 x3) w9 fun x15 w10 =>
 pN Try.prog (oCall 62 [x13, x14, x15]) w10 fun _ w11 =>
 Q (.tuple #[]) w11)))
theorem rcdec_Decoder_Bit_c1.eq (rv : Value) (x0 : Value) (x1 : Value) (x2 : Value) (x3 : Value) (x4 : Value) (x5 : Value) (w : World) (Q : Value → World → Prop) : cw Try.prog rcdec_Decoder_Bit_c1.H (rcdec_Decoder_Bit_c1.d rv) (endQ Try.prog Try.f94.results.toList Q) (argsE [x0, x1, x2, x3, x4, x5]) w = rcdec_Decoder_Bit_c1.F rv x0 x1 x2 x3 x4 x5 w Q := by kernel_rfl
theorem rcdec_Decoder_Bit_c1.panics {rv : Value} {older : List PanicEntry} {x0 : Value} {x1 : Value} {x2 : Value} {x3 : Value} {x4 : Value} {x5 : Value} {w : World} {Q : Value → World → Prop} (h : rcdec_Decoder_Bit_c1.F rv x0 x1 x2 x3 x4 x5 w Q) : CallsD Try.prog 94 #[x0, x1, x2, x3, x4, x5] (.panicking ({ v := rv, recovered := false } :: older)) w fun e u w => u = .panicking ({ v := rv, recovered := true } :: older) ∧ ∃ r, e = .returned r ∧ Q r w :=
  callsD_of_cw (H := rcdec_Decoder_Bit_c1.H) (c := rcdec_Decoder_Bit_c1.c) (c' := rcdec_Decoder_Bit_c1.d rv) (args := [x0, x1, x2, x3, x4, x5]) mixed (Or.inl ⟨older, rfl, rfl⟩) Try.func94 (by kernel_rfl) (rsp_of _ _ _ _ _ (by kernel_rfl)) (by kernel_rfl) (Nat.le_of_ble_eq_true (by kernel_rfl)) ((rcdec_Decoder_Bit_c1.eq rv x0 x1 x2 x3 x4 x5 w Q).mpr h)
theorem rcdec_Decoder_Bit_c1.idles {x0 : Value} {x1 : Value} {x2 : Value} {x3 : Value} {x4 : Value} {x5 : Value} {w : World} {Q : Value → World → Prop} (h : rcdec_Decoder_Bit_c1.F .nilIface x0 x1 x2 x3 x4 x5 w Q) : CallsD Try.prog 94 #[x0, x1, x2, x3, x4, x5] .returning w fun e u w => u = .returning ∧ ∃ r, e = .returned r ∧ Q r w :=
  callsD_of_cw (H := rcdec_Decoder_Bit_c1.H) (c := rcdec_Decoder_Bit_c1.c) (c' := rcdec_Decoder_Bit_c1.d .nilIface) (args := [x0, x1, x2, x3, x4, x5]) mixed (Or.inr ⟨rfl, rfl, rfl⟩) Try.func94 (by kernel_rfl) (rsp_of _ _ _ _ _ (by kernel_rfl)) (by kernel_rfl) (Nat.le_of_ble_eq_true (by kernel_rfl)) ((rcdec_Decoder_Bit_c1.eq .nilIface x0 x1 x2 x3 x4 x5 w Q).mpr h)

/-! rcdec_Decoder_upper: (*pith/rcdec.Decoder).upper; temporaries: 0:d 1:cut 2:d 3:cut -/
def rcdec_Decoder_upper.H : Hints := { cut := fun  | _ => none, loop := fun  | _ => ([], 0), order := fun  | _ => [] }
def rcdec_Decoder_upper.F [Pan] (x0 : Value) (x1 : Value) (w : World) (Q : Value → World → Prop) : Prop :=
 pN Try.prog (oNil x0) w fun x6 w1 =>
 pN Try.prog (oFld 149 x6 1) w1 fun x7 w2 =>
 pN Try.prog (oFld 147 x7 2) w2 fun x8 w3 =>
 pN Try.prog (oLoad 26 x8) w3 fun x9 w4 =>
 pN Try.prog (oBin .lss 26 (.tmp 9) (.tmp 10) x9 x1) w4 fun x11 w5 =>
 pIf x11
 (pN Try.prog (oNil x0) w5 fun x14 w6 =>
 pN Try.prog (oFld 149 x14 1) w6 fun x15 w7 =>
 pN Try.prog (oFld 147 x15 1) w7 fun x16 w8 =>
 pN Try.prog (oStore 26 x16 x1) w8 fun _ w9 =>
 Q (.bool false) w9)
 (pN Try.prog (oNil x0) w5 fun x18 w10 =>
 pN Try.prog (oFld 149 x18 1) w10 fun x19 w11 =>
 pN Try.prog (oFld 147 x19 2) w11 fun x20 w12 =>
 pN Try.prog (oLoad 26 x20) w12 fun x21 w13 =>
 pN Try.prog (oBin .sub 26 (.tmp 21) (.tmp 22) x21 x1) w13 fun x23 w14 =>
 pN Try.prog (oNil x0) w14 fun x24 w15 =>
 pN Try.prog (oFld 149 x24 1) w15 fun x25 w16 =>
 pN Try.prog (oFld 147 x25 2) w16 fun x26 w17 =>
 pN Try.prog (oStore 26 x26 x23) w17 fun _ w18 =>
 pN Try.prog (oNil x0) w18 fun x28 w19 =>
 pN Try.prog (oFld 149 x28 1) w19 fun x29 w20 =>
 pN Try.prog (oFld 147 x29 1) w20 fun x30 w21 =>
 pN Try.prog (oLoad 26 x30) w21 fun x31 w22 =>
 pN Try.prog (oBin .sub 26 (.tmp 31) (.tmp 32) x31 x1) w22 fun x33 w23 =>
 pN Try.prog (oNil x0) w23 fun x34 w24 =>
 pN Try.prog (oFld 149 x34 1) w24 fun x35 w25 =>
 pN Try.prog (oFld 147 x35 1) w25 fun x36 w26 =>
 pN Try.prog (oStore 26 x36 x33) w26 fun _ w27 =>
 Q (.bool true) w27)
noncomputable def rcdec_Decoder_upper.c : Code := match Try.f95.body with | some c => c | none => .skip
theorem rcdec_Decoder_upper.eq [Pan] (x0 : Value) (x1 : Value) (w : World) (Q : Value → World → Prop) : cw Try.prog rcdec_Decoder_upper.H rcdec_Decoder_upper.c (endQ Try.prog Try.f95.results.toList Q) (argsE [x0, x1]) w = rcdec_Decoder_upper.F x0 x1 w Q := by kernel_rfl
theorem rcdec_Decoder_upper.calls [Pan] {x0 : Value} {x1 : Value} {w : World} {Q : Value → World → Prop} (h : rcdec_Decoder_upper.F x0 x1 w Q) : Calls Try.prog 95 #[x0, x1] w (retP Q) :=
  calls_of_cw (H := rcdec_Decoder_upper.H) (c := rcdec_Decoder_upper.c) (args := [x0, x1]) mixed Try.func95 (by kernel_rfl) (by kernel_rfl) (Nat.le_of_ble_eq_true (by kernel_rfl)) ((rcdec_Decoder_upper.eq x0 x1 w Q).mpr h)

end Go.Proofs.Ytoejaggkedlfmaa

namespace Go.Proofs.Ytoejaggkedlfmaa
open Go
set_option linter.unusedSimpArgs false
set_option linter.unnecessarySimpa false
set_option linter.unusedSectionVars false
set_option linter.unusedVariables false

section
variable [Pan] {P : Program} {E w : World} {K : Value → World → Prop} {J : Value → Prop} {L M : List HA} {v : Value} {t : TypeId} {o : Ob} {b i n : Nat}

theorem run_la_at (hS : Sat E w L) [h : Fnd (cel b) L o M] [Ag P t n] (cs : List Value) (hc : (o.cs.drop i).take n = cs) (hn : n = cs.length) : (oLoad t (.pointer (some ⟨b, i, none⟩))).run P w = .ok (.value (.agg cs.toArray)) w := by
  have hl := cells_of_blk (o := i) (cel_at (b := b) hS) n
  rw [List.toList_toArray, hc] at hl
  exact run_load_agg Ag.ag (by rw [← hn]; exact Ag.sz) hl
theorem pN_la_at (hS : Sat E w L) [h : Fnd (cel b) L o M] [Ag P t n] (cs : List Value) (hc : (o.cs.drop i).take n = cs) (hn : n = cs.length) (hk : K (.agg cs.toArray) w) : pN P (oLoad t (.pointer (some ⟨b, i, none⟩))) w K := by
  rw [pN_def, run_la_at hS cs hc hn, rN_value]; exact hk
theorem pL_la_at (hS : Sat E w L) [h : Fnd (cel b) L o M] [Ag P t n] (cs : List Value) (hc : (o.cs.drop i).take n = cs) (hn : n = cs.length) (hk : J (.agg cs.toArray)) : pL P (oLoad t (.pointer (some ⟨b, i, none⟩))) w J :=
  ⟨_, run_la_at hS cs hc hn, hk⟩
theorem pN_sa_at {us : List Value} (hS : Sat E w L) [h : Fnd (cel b) L o M] [Ag P t n] (hn : n = us.length) (hi : i + us.length ≤ o.cs.length) (h1 : us.all (·.oneCell') = true)
    (hk : ∀ w', Sat E w' (cel b ⟨o.e, o.cs.take i ++ us ++ o.cs.drop (i + us.length)⟩ :: M) → K undef w') : pN P (oStore t (.pointer (some ⟨b, i, none⟩)) (.agg us.toArray)) w K := by
  refine pN_st_part (hS.fd (cel b)) Ag.sz (by simpa using hn) (by simpa using List.all_eq_true.1 h1) (by simpa using hi) fun w' hS' => hk w' ?_
  simpa [cel] using hS'

/-- A closure deferred. -/
theorem pDf_fn {fn : Fn} {first cap args : List Value} {K : Deferred → Prop} (hk : K { target := .fn fn cap.toArray, args := first.toArray ++ args.toArray }) : pDf P (oDf (.func fn first.toArray cap.toArray) args) w K := ⟨_, rfl, hk⟩

theorem dE_of {f : FuncId} {cap args : List Value} {u u2 : FrameMode} {K : World → Prop} {Q : Value → World → Prop} (hi : ∀ (args : Array Value) (w : World), (callFunc f args).run P w = .ok (.enter f args) w) (hu : settle u2 = .returning) (hk : ∀ r w, Q r w → K w)
    (h : CallsD P f (args ++ cap).toArray u w fun e u' w' => u' = u2 ∧ ∃ r, e = .returned r ∧ Q r w') : dE P { target := .fn (.func f) cap.toArray, args := #[] ++ args.toArray } u w K := by
  refine ⟨.func f, cap.toArray, f, (args ++ cap).toArray, rfl, ?_, h.mono fun e u' w' he => ?_⟩
  · show (callFunc f _).run P w = _
    rw [hi]
    simp
  · obtain ⟨rfl, r, rfl, hq⟩ := he
    exact ⟨⟨r, rfl⟩, hu, hk _ _ hq⟩
end

/-- A panic. -/
theorem pN_panic [Z : Pan] {P : Program} {w : World} {K : Value → World → Prop} {t : TypeId} {v : Value} (hr : (oPanic (.iface t v)).run P w = .halt (.panic (.iface t v)) w) (h : Z.z [{ v := .iface t v, recovered := false }] w) : pN P (oPanic (.iface t v)) w K := by
  rw [pN_def, hr]
  exact h

/-- or of a number and what lies below it. -/
theorem or_low (n : Nat) (a b : Int) (j : Nat) (ha : 0 ≤ a) (hb : 0 ≤ b) (hb2 : b < 2 ^ j) (h : a * 2 ^ j + b < 2 ^ n) : ((BitVec.ofInt n (a * 2 ^ j) ||| BitVec.ofInt n b).toNat : Int) = a * 2 ^ j + b := by
  obtain ⟨a, rfl⟩ := Int.eq_ofNat_of_zero_le ha
  obtain ⟨b, rfl⟩ := Int.eq_ofNat_of_zero_le hb
  have hb3 : b < 2 ^ j := by exact_mod_cast hb2
  have h2 : a * 2 ^ j + b < 2 ^ n := by exact_mod_cast h
  have e1 : ((a : Int) * 2 ^ j) = ((a * 2 ^ j : Nat) : Int) := by push_cast; rfl
  have e2 : (BitVec.ofInt n ((a * 2 ^ j : Nat) : Int)).toNat = a * 2 ^ j := by
    rw [BitVec.toNat_ofInt]
    norm_cast
    rw [Int.toNat_natCast]
    exact Nat.mod_eq_of_lt (by omega)
  have e3 : (BitVec.ofInt n (b : Int)).toNat = b := by
    rw [BitVec.toNat_ofInt]
    norm_cast
    rw [Int.toNat_natCast]
    exact Nat.mod_eq_of_lt (by omega)
  rw [e1, BitVec.toNat_or, e2, e3, Nat.mul_comm a, ← Nat.two_pow_add_eq_or_of_lt hb3]
  push_cast
  rfl

end Go.Proofs.Ytoejaggkedlfmaa

namespace Go.Proofs.Ytoejaggkedlfmaa
open Go
set_option linter.unusedSimpArgs false
set_option linter.unnecessarySimpa false
set_option linter.unusedSectionVars false
set_option linter.unusedVariables false

namespace D
/-- A decoder: its bytes, how many are read, the range, the code. -/
structure S where
  b : List UInt8
  k : Nat
  R : Int
  C : Int

structure Ok (s : S) : Prop where
  k : s.k ≤ s.b.length
  r0 : 16777216 ≤ s.R
  r1 : s.R < 4294967296
  c0 : 0 ≤ s.C
  c1 : s.C < s.R

/-- One byte more, where the range is small; none: no byte is left. -/
def S.widen (s : S) : Option S := if 16777216 ≤ s.R then some s else match s.b[s.k]? with
  | none => none
  | some x => some ⟨s.b, s.k + 1, s.R * 256, s.C * 256 + (x.toNat : Int)⟩
def S.bitAt (s : S) (c : Int) : Int := if s.C < c then 0 else 1
def S.cut (s : S) (c : Int) : S := if s.C < c then ⟨s.b, s.k, c, s.C⟩ else ⟨s.b, s.k, s.R - c, s.C - c⟩
/-- What a question comes to: an answer, or a refusal. -/
inductive An (α : Type)
  | ok (s : S) (v : α)
  | no (e : Int)
def S.bit (s : S) (c : Int) : An Int := match (s.cut c).widen with
  | some t => .ok t (s.bitAt c)
  | none => .no 1
/-- One bit without a probability. -/
def S.one (s : S) : S := if s.C < s.R / 2 then ⟨s.b, s.k, s.R / 2, s.C⟩ else ⟨s.b, s.k, s.R / 2, s.C - s.R / 2⟩
def S.direct (s : S) (v : Int) : Nat → An Int
  | 0 => .ok s v
  | n + 1 => if s.one.R ≤ s.one.C then .no 2 else match s.one.widen with
    | none => .no 1
    | some t => t.direct (2 * v + s.bitAt (s.R / 2)) n

/-- The code at the front. -/
def front (b : List UInt8) (i : Nat) : Int := R.num ((b.drop 1).take i)
/-- At the front. -/
def start (b : List UInt8) : An Unit := if b.length < 5 then .no 1 else if b[0]? ≠ some 0 ∨ front b 4 = 4294967295 then .no 2 else .ok ⟨b, 5, 4294967295, front b 4⟩ ()
theorem front_0 (b : List UInt8) : front b 0 = 0 := by simp [front, R.num]
theorem front_succ (b : List UInt8) (i : Nat) {x : UInt8} (h : b[i + 1]? = some x) : front b (i + 1) = front b i * 256 + (x.toNat : Int) := by
  unfold front
  have h2 : (b.drop 1)[i]? = some x := by rw [List.getElem?_drop, Nat.add_comm]; exact h
  rw [List.take_add_one, h2, Option.toList_some, R.num_snoc]
theorem front_bd (b : List UInt8) (i : Nat) (h : i ≤ 4) : 0 ≤ front b i ∧ front b i < 256 ^ i := by
  refine ⟨R.num_nonneg _, ?_⟩
  have h1 := R.num_lt ((b.drop 1).take i)
  have h2 : ((b.drop 1).take i).length ≤ i := by rw [List.length_take]; omega
  refine Int.lt_of_lt_of_le h1 ?_
  have : (256 : Nat) ^ ((b.drop 1).take i).length ≤ 256 ^ i := Nat.pow_le_pow_right (by omega) h2
  have e : ∀ k : Nat, (256 : Int) ^ k = ((256 ^ k : Nat) : Int) := fun k => (Int.natCast_pow 256 k).symm
  rw [e, e]
  exact Int.ofNat_le.2 this
theorem front_lt (b : List UInt8) (i : Nat) (h : i ≤ 3) : 0 ≤ front b i ∧ front b i < 16777216 := by
  have h1 := front_bd b i (by omega)
  have h2 : (256 : Nat) ^ i ≤ 256 ^ 3 := Nat.pow_le_pow_right (by omega) h
  have e : ∀ k : Nat, (256 : Int) ^ k = ((256 ^ k : Nat) : Int) := fun k => (Int.natCast_pow 256 k).symm
  have h3 : (256 : Int) ^ i ≤ 256 ^ 3 := by rw [e, e]; exact Int.ofNat_le.2 h2
  have h4 : (256 : Int) ^ 3 = 16777216 := by decide
  omega
theorem start_ok {b : List UInt8} {t : S} {u : Unit} (h : start b = .ok t u) : Ok t ∧ t.b = b ∧ t.k = 5 := by
  by_cases h1 : b.length < 5
  · rw [start, if_pos h1] at h
    cases h
  · by_cases h2 : b[0]? ≠ some 0 ∨ front b 4 = 4294967295
    · rw [start, if_neg h1, if_pos h2] at h
      cases h
    · rw [start, if_neg h1, if_neg h2] at h
      cases h
      have h3 := front_bd b 4 (by omega)
      have h4 : (256 : Int) ^ 4 = 4294967296 := by decide
      have h5 : front b 4 ≠ 4294967295 := fun e => h2 (.inr e)
      exact ⟨⟨by simp only; omega, by simp only; omega, by simp only; omega, h3.1, by simp only; omega⟩, rfl, rfl⟩

theorem widen_b {s t : S} (h : s.widen = some t) : t.b = s.b := by
  unfold S.widen at h
  split at h
  · cases h; rfl
  · split at h
    · cases h
    · cases h; rfl
theorem widen_ok {s t : S} (hk : s.k ≤ s.b.length) (r0 : 65536 ≤ s.R) (r1 : s.R < 4294967296) (c0 : 0 ≤ s.C) (c1 : s.C < s.R) (h : s.widen = some t) : Ok t := by
  unfold S.widen at h
  split at h
  · cases h; exact ⟨hk, by assumption, r1, c0, c1⟩
  · split at h
    · cases h
    · rename_i x hx
      cases h
      have hlt := (List.getElem?_eq_some_iff.1 hx).1
      have := x.toNat_lt
      exact ⟨by simp only; omega, by simp only; omega, by simp only; omega, by simp only; omega, by simp only; omega⟩
theorem bound_mid {r p : Int} (hr : 16777216 ≤ r) (h0 : 31 ≤ p) (h1 : p ≤ 2017) : 65536 ≤ B.bound r p ∧ 65536 ≤ r - B.bound r p := by
  unfold B.bound
  rw [B.taken_self (by omega) (by omega)]
  have a1 : r / 2048 * 31 ≤ r / 2048 * p := Int.mul_le_mul_of_nonneg_left h0 (by omega)
  have a2 : r / 2048 * p ≤ r / 2048 * 2017 := Int.mul_le_mul_of_nonneg_left h1 (by omega)
  omega
structure CutOk (s : S) (b : List UInt8) : Prop where
  b : s.b = b
  k : s.k ≤ s.b.length
  r0 : 65536 ≤ s.R
  r1 : s.R < 4294967296
  c0 : 0 ≤ s.C
  c1 : s.C < s.R
theorem Ok.cut {s : S} (h : Ok s) {c : Int} (h0 : 65536 ≤ c) (h1 : 65536 ≤ s.R - c) : CutOk (s.cut c) s.b := by
  obtain ⟨a1, a2, a3, a4, a5⟩ := h
  unfold S.cut
  split
  · exact ⟨rfl, a1, h0, by simp only; omega, a4, by simp only; omega⟩
  · exact ⟨rfl, a1, h1, by simp only; omega, by simp only; omega, by simp only; omega⟩
theorem Ok.bit {s t : S} (h : Ok s) {c v : Int} (h0 : 65536 ≤ c) (h1 : 65536 ≤ s.R - c) (e : s.bit c = .ok t v) : Ok t ∧ t.b = s.b ∧ v = s.bitAt c := by
  unfold S.bit at e
  split at e
  · rename_i t' ht
    cases e
    have hc := h.cut h0 h1
    exact ⟨widen_ok hc.k hc.r0 hc.r1 hc.c0 hc.c1 ht, (widen_b ht).trans hc.b, rfl⟩
  · cases e
theorem bitAt_01 (s : S) (c : Int) : s.bitAt c = 0 ∨ s.bitAt c = 1 := by unfold S.bitAt; split <;> simp
structure OneOk (s : S) (b : List UInt8) : Prop where
  b : s.b = b
  k : s.k ≤ s.b.length
  r0 : 8388608 ≤ s.R
  r1 : s.R < 2147483648
  c0 : 0 ≤ s.C
  c1 : s.C ≤ s.R
theorem Ok.one {s : S} (h : Ok s) : OneOk s.one s.b := by
  obtain ⟨a1, a2, a3, a4, a5⟩ := h
  unfold S.one
  split
  · exact ⟨rfl, a1, by simp only; omega, by simp only; omega, a4, by simp only; omega⟩
  · exact ⟨rfl, a1, by simp only; omega, by simp only; omega, by simp only; omega, by simp only; omega⟩
theorem OneOk.widen {s t : S} {b : List UInt8} (h : OneOk s b) (hc : s.C < s.R) (e : s.widen = some t) : Ok t ∧ t.b = b :=
  ⟨widen_ok h.k (by have := h.r0; omega) (by have := h.r1; omega) h.c0 hc e, (widen_b e).trans h.b⟩
theorem Ok.direct : ∀ (n : Nat) {s t : S} {v u : Int}, Ok s → s.direct v n = .ok t u → Ok t ∧ t.b = s.b
  | 0, s, t, v, u, h, e => by cases e; exact ⟨h, rfl⟩
  | n + 1, s, t, v, u, h, e => by
    simp only [S.direct] at e
    split at e
    · cases e
    · split at e
      · cases e
      · rename_i t' ht
        obtain ⟨h1, h2⟩ := h.one.widen (by omega) ht
        obtain ⟨h3, h4⟩ := Ok.direct n h1 e
        exact ⟨h3, h4.trans h2⟩
end D

end Go.Proofs.Ytoejaggkedlfmaa

namespace Go.Proofs.Ytoejaggkedlfmaa
open Go
set_option linter.unusedSimpArgs false
set_option linter.unnecessarySimpa false
set_option linter.unusedSectionVars false
set_option linter.unusedVariables false
attribute [local irreducible] oMv oV oU oCall oCallV oBi oBin oUn oLoad oStore oNil oFld oField oIdx oIndex oPick oAlloc oBox oBuild oBs oConv oMk oSl oExt oFn oIface oMap oLook oMapUp oRange oNext oAssert oPanic oRes pN pA pL pDr pIf gA pGd
attribute [local irreducible] oDf pDf dE

/-- A decoder in block d. -/
def Dec (d : Nat) (st : D.S) : HA := fun h => ∃ s : Sl, Sats [cel d ⟨149, [.slice s.a st.b.length s.c, .int .i64 st.k, .int .u32 st.R, .int .u32 st.C]⟩, rows cd_uint8 s st.b] h
/-- What a decoder panics with. -/
abbrev refd (e : Int) : Value := .iface 154 (.int .i64 e)

section
variable {E w : World} {M : List HA} {Q : Value → World → Prop} {d : Nat} {st : D.S}

theorem Dec.opn (hS : Sat E w (Dec d st :: M)) : ∃ s : Sl, Sat E w (cel d ⟨149, [.slice s.a st.b.length s.c, .int .i64 st.k, .int .u32 st.R, .int .u32 st.C]⟩ :: rows cd_uint8 s st.b :: M) := by
  obtain ⟨s, hS⟩ := hS.ex
  exact ⟨s, hS.open_ (M := [_, _]) fun _ h => h⟩
theorem Dec.shut {s : Sl} {L N : List HA} {o : Ob} {l : List UInt8} (hS : Sat E w L) (st : D.S) [h1 : Fnd (cel d) L o N] [h2 : Fnd (rows cd_uint8 s) N l M] (ho : o = ⟨149, [.slice s.a l.length s.c, .int .i64 st.k, .int .u32 st.R, .int .u32 st.C]⟩) (hl : l = st.b) : Sat E w (Dec d st :: M) := by
  subst hl
  subst ho
  exact Sat.shut (M := [_, _]) (hS.fd2 (cel d) (rows cd_uint8 s)) fun _ h => ⟨s, h⟩

section
variable [Pan] {K : Value → World → Prop} {J : Value → Prop} {t : TypeId} {xo yo : Operand} {a b : Int}
theorem pN_ifr {n : Int} (hk : K (refd n) w) : pN Try.prog (oIface 154 (.int .i64 n)) w K := by
  have : (oIface 154 (.int .i64 n)).run Try.prog w = .ok (.value (refd n)) w := by kernel_rfl
  rw [pN_def, this, rN_value]; exact hk
theorem pN_pnr {n : Int} (h : Pan.z [{ v := refd n, recovered := false }] w) : pN Try.prog (oPanic (refd n)) w K := pN_panic (by kernel_rfl) h
theorem pN_orl (c : Int) (j : Nat) (hc : c = 2 ^ j) (ha : 0 ≤ a) (hb : 0 ≤ b ∧ b < c) (h : a * c + b < 4294967296) (hk : K (.int .u32 (a * c + b)) w) : pN Try.prog (oBin .or t xo yo (.int .u32 (a * c)) (.int .u32 b)) w K := by
  subst hc
  have e := or_low IntKind.u32.bits a b j ha hb.1 hb.2 h
  rw [pN_or, e, w_u32 (by have := Int.mul_nonneg ha (Int.le_of_lt (Int.pow_pos (n := 2) (m := j) (by omega))); omega)]
  exact hk
theorem pA_orl (c : Int) (j : Nat) (hc : c = 2 ^ j) (ha : 0 ≤ a) (hb : 0 ≤ b ∧ b < c) (h : a * c + b < 4294967296) (hk : J (.int .u32 (a * c + b))) : pA Try.prog (oBin .or t xo yo (.int .u32 (a * c)) (.int .u32 b)) J := by
  subst hc
  have e := or_low IntKind.u32.bits a b j ha hb.1 hb.2 h
  rw [pA_or, e, w_u32 (by have := Int.mul_nonneg ha (Int.le_of_lt (Int.pow_pos (n := 2) (m := j) (by omega))); omega)]
  exact hk
end

theorem Dwiden_ok [Pan] (hS : Sat E w (Dec d st :: M)) (hk : st.k ≤ st.b.length) (hb : st.b.length ≤ 225000000000000) (r0 : 0 < st.R) (c0 : 0 ≤ st.C) (c1 : st.C < st.R)
    (hQ : ∀ t w, st.widen = some t → Sat E w (Dec d t :: M) → Q (.tuple #[]) w) (hZ : ∀ w, st.widen = none → Sat E w (Dec d st :: M) → Pan.z [{ v := refd 1, recovered := false }] w) :
    Calls Try.prog 91 #[.pointer (some ⟨d, 0, none⟩)] w (retP Q) := by
  refine rcdec_Decoder_widen.calls ?_
  unfold rcdec_Decoder_widen.F
  obtain ⟨s, hS⟩ := Dec.opn hS
  repeat' (first | (refine pN_geq_s ?_ ?_ <;> intro hc <;> try (exfalso; omega)) | refine pIf_t ?_ | refine pIf_f ?_ | refine pN_l hS (by first | rfl | assumption) ?_ | refine pN_via (by (intro K; simp (disch := omega) only [go_sem, pN_min, pN_max, w_u32, w_u64, Option.isNone_some, Option.isNone_none]; (try simp only [wrap_u32, wrap_u64]); rfl)) ?_ | fail)
  · refine hQ st _ (by rw [D.S.widen, if_pos (by omega)]) (Dec.shut (d := d) (s := s) hS st rfl rfl)
  · refine ⟨fun w => st.k < st.b.length ∧ Sat E w (cel d ⟨149, [.slice s.a st.b.length s.c, .int .i64 st.k, .int .u32 st.R, .int .u32 st.C]⟩ :: rows cd_uint8 s st.b :: M), ?_, ?_⟩
    · repeat' (first | refine pN_ifr ?_ | refine pN_pnr ?_ | (refine pA_eql_s ?_ ?_ <;> intro hc <;> try (exfalso; first | omega | exact hc rfl | exact hc (by assumption) | exact absurd hc (by assumption))) | refine pIf_t ?_ | refine pIf_f ?_ | refine pL_l hS (by first | rfl | assumption) ?_ | (refine pDr_go hS ?_; clear hS; intro w hS) | refine pA_via (by (intro K; simp (disch := omega) only [go_sem, pN_min, pN_max, w_u32, w_u64, Option.isNone_some, Option.isNone_none]; (try simp only [wrap_u32, wrap_u64]); rfl)) ?_ | fail)
      · refine hZ _ ?_ (Dec.shut (d := d) (s := s) hS st rfl rfl)
        rw [D.S.widen, if_neg (by omega), List.getElem?_eq_none (by omega)]
      · exact ⟨by omega, hS⟩
    · clear hS
      rintro _ w ⟨hlt, hS⟩
      obtain ⟨x, hx⟩ : ∃ x, st.b[st.k]? = some x := ⟨st.b[st.k]'hlt, by simp⟩
      have hx2 := x.toNat_lt
      repeat' (first | refine pA_orl 256 8 (by decide) (by omega) (by omega) (by omega) ?_ | refine pL_ofb ?_ | refine pN_l hS (by first | rfl | assumption) ?_ | refine pL_l hS (by first | rfl | assumption) ?_ | refine pL_ld1 ha hS ?_ | (refine pN_s hS (by first | exact Nat.le_of_ble_eq_true rfl | assumption) (by rfl) ?_; clear hS; intro w hS; try simp only [List.set_cons_zero, List.set_cons_succ] at hS) | (refine pDr_go hS ?_; clear hS; intro w hS) | refine ⟨trivial, ?_⟩ | refine pA_ixk hS _ (by first | rfl | (exact (Int.toNat_of_nonneg (by omega)).symm)) (by first | rfl | omega | simpa only [go_sem] using True.intro | (simp only [go_sem]; omega)) (by assumption) fun a ha hel => ?_ | refine pN_via (by (intro K; simp (disch := omega) only [go_sem, pN_min, pN_max, w_u32, w_u64, Option.isNone_some, Option.isNone_none]; (try simp only [wrap_u32, wrap_u64]); rfl)) ?_ | refine pA_via (by (intro K; simp (disch := omega) only [go_sem, pN_min, pN_max, w_u32, w_u64, Option.isNone_some, Option.isNone_none]; (try simp only [wrap_u32, wrap_u64]); rfl)) ?_ | fail)
      refine hQ ⟨st.b, st.k + 1, st.R * 256, st.C * 256 + x.toNat⟩ _ (by rw [D.S.widen, if_neg (by omega), hx]) (Dec.shut (d := d) (s := s) hS ⟨st.b, st.k + 1, st.R * 256, st.C * 256 + x.toNat⟩ rfl rfl)

theorem upper_ok (hS : Sat E w (Dec d st :: M)) (c : Int) (c0 : 0 ≤ c) (h1 : st.C < c → True) (r1 : c ≤ st.R) (r2 : st.R < 4294967296) (hC : 0 ≤ st.C) (hC2 : st.C < st.R)
    (hQ : ∀ w, Sat E w (Dec d (st.cut c) :: M) → Q (.bool (decide (¬ st.C < c))) w) :
    Calls Try.prog 95 #[.pointer (some ⟨d, 0, none⟩), .int .u32 c] w (retP Q) := by
  refine rcdec_Decoder_upper.calls ?_
  unfold rcdec_Decoder_upper.F
  obtain ⟨s, hS⟩ := Dec.opn hS
  repeat' (first | (refine pN_lss_s ?_ ?_ <;> intro hc <;> try (exfalso; omega)) | refine pIf_t ?_ | refine pIf_f ?_ | refine pN_l hS (by first | rfl | assumption) ?_ | (refine pN_s hS (by first | exact Nat.le_of_ble_eq_true rfl | assumption) (by rfl) ?_; clear hS; intro w hS; try simp only [List.set_cons_zero, List.set_cons_succ] at hS) | refine pN_via (by (intro K; simp (disch := omega) only [go_sem, pN_min, pN_max, w_u32, w_u64, Option.isNone_some, Option.isNone_none]; (try simp only [wrap_u32, wrap_u64]); rfl)) ?_ | fail)
  · rw [decide_eq_false (by omega), D.S.cut, if_pos (by omega)] at hQ
    exact hQ _ (Dec.shut (d := d) (s := s) hS ⟨st.b, st.k, c, st.C⟩ rfl rfl)
  · rw [decide_eq_true (by omega), D.S.cut, if_neg (by omega)] at hQ
    exact hQ _ (Dec.shut (d := d) (s := s) hS ⟨st.b, st.k, st.R - c, st.C - c⟩ rfl rfl)

section
variable [Pan] {K : Value → World → Prop} {xo yo : Operand}
theorem pN_eqn {x : Nat} (hk : K (.bool true) w) : pN Try.prog (oBin .eql 20 (.tmp x) (.const .nilIface) .nilIface .nilIface) w K := by
  have : (oBin .eql 20 (.tmp x) (.const .nilIface) .nilIface .nilIface).run Try.prog w = .ok (.value (.bool true)) w := by kernel_rfl
  rw [pN_def, this, rN_value]; exact hk
theorem pN_eqr {n : Int} (hk : K (.bool false) w) : pN Try.prog (oBin .eql 20 xo yo (refd n) .nilIface) w K := by
  have : (oBin .eql 20 xo yo (refd n) .nilIface).run Try.prog w = .ok (.value (.bool false)) w := by kernel_rfl
  rw [pN_def, this, rN_value]; exact hk
theorem pN_asr {n : Int} (hk : K (.tuple #[.int .i64 n, .bool true]) w) : pN Try.prog (oAssert (refd n) 20 154 true) w K := by
  have : (oAssert (refd n) 20 154 true).run Try.prog w = .ok (.value (.tuple #[.int .i64 n, .bool true])) w := by kernel_rfl
  rw [pN_def, this, rN_value]; exact hk
end

theorem back_nil (hS : Sat E w M) {k R C : Int} (hQ : ∀ w, Sat E w M → Q (.int .i64 0) w) :
    Calls Try.prog 90 #[.pointer (some ⟨d, 0, none⟩), .agg #[.int .i64 k, .int .u32 R, .int .u32 C], .nilIface] w (retP Q) := by
  refine rcdec_Decoder_back.calls ?_
  unfold rcdec_Decoder_back.F
  repeat' (first | refine pN_eqn ?_ | refine pIf_t ?_ | (refine pN_bx hS (by rfl) ?_; clear hS; intro a w hS) | fail)
  exact hQ _ hS.to

theorem back_ref (hS : Sat E w (Dec d st :: M)) (k : Nat) (R C e : Int) (hQ : ∀ w, Sat E w (Dec d ⟨st.b, k, R, C⟩ :: M) → Q (.int .i64 e) w) :
    Calls Try.prog 90 #[.pointer (some ⟨d, 0, none⟩), .agg #[.int .i64 k, .int .u32 R, .int .u32 C], refd e] w (retP Q) := by
  refine rcdec_Decoder_back.calls ?_
  unfold rcdec_Decoder_back.F
  obtain ⟨s, hS⟩ := Dec.opn hS
  repeat' (first | refine pN_eqr ?_ | refine pN_asr ?_ | (refine pN_sa_at hS (by rfl) (by exact Nat.le_of_ble_eq_true rfl) (by rfl) ?_; clear hS; intro w hS) | refine pIf_f ?_ | refine pN_la hS (by rfl) ?_ | (refine pN_bx hS (by rfl) ?_; clear hS; intro a w hS) | refine pN_via (by (intro K; simp (disch := omega) only [go_sem, pN_min, pN_max, w_u32, w_u64, Option.isNone_some, Option.isNone_none]; (try simp only [wrap_u32, wrap_u64]); rfl)) ?_ | refine ⟨_, ?_, fun _ _ h => h⟩ | fail)
  have hS : Sat E w (cel d ⟨149, [.slice s.a st.b.length s.c, .int .i64 k, .int .u32 R, .int .u32 C]⟩ :: cel a ⟨147, [.int .i64 k, .int .u32 R, .int .u32 C]⟩ :: rows cd_uint8 s st.b :: M) := hS
  have hS : Sat E w (Dec d ⟨st.b, k, R, C⟩ :: cel a ⟨147, [.int .i64 k, .int .u32 R, .int .u32 C]⟩ :: M) := Dec.shut (d := d) (s := s) hS ⟨st.b, k, R, C⟩ rfl rfl
  exact hQ _ hS.to

/-- The closure of Bit, where nothing panics. -/
theorem BitC_idle {p x7 x6 x3 x4 x5 : Nat} {l : List Int} {i bit : Int} {k R C : Int}
    (hS : Sat E w (Dec d st :: PSet p l :: cel x3 ⟨75, [.pointer (some ⟨d, 0, none⟩)]⟩ :: cel x4 ⟨34, [.pointer (some ⟨p, 0, none⟩)]⟩ :: cel x5 ⟨3, [.int .i64 i]⟩ :: cel x6 ⟨3, [.int .i64 bit]⟩ :: cel x7 ⟨27, [.int .i64 0]⟩ :: M))
    (h0 : 0 ≤ i) (h1 : i < l.length)
    (hQ : ∀ w, Sat E w (Dec d st :: PSet p (l.set i.toNat (B.next (l.getD i.toNat 0) bit)) :: cel x3 ⟨75, [.pointer (some ⟨d, 0, none⟩)]⟩ :: cel x4 ⟨34, [.pointer (some ⟨p, 0, none⟩)]⟩ :: cel x5 ⟨3, [.int .i64 i]⟩ :: cel x6 ⟨3, [.int .i64 bit]⟩ :: cel x7 ⟨27, [.int .i64 0]⟩ :: M) → Q (.tuple #[]) w) :
    rcdec_Decoder_Bit_c1.F .nilIface (.agg #[.int .i64 k, .int .u32 R, .int .u32 C]) (.pointer (some ⟨x3, 0, none⟩)) (.pointer (some ⟨x7, 0, none⟩)) (.pointer (some ⟨x6, 0, none⟩)) (.pointer (some ⟨x4, 0, none⟩)) (.pointer (some ⟨x5, 0, none⟩)) w Q := by
  unfold rcdec_Decoder_Bit_c1.F
  repeat' (first | (refine pc_rcdec_Decoder_back (back_nil (d := d) hS ?_); clear hS; intro w hS) | (refine pc_prob_Set_Turn (Turn_ok (hS.fd (PSet p)) i bit ?_); clear hS; intro w hS) | (refine pN_neq_s ?_ ?_ <;> intro hc <;> try (exfalso; first | omega | exact hc rfl | exact hc (by assumption) | exact absurd hc (by assumption))) | refine pIf_f ?_ | refine pN_l hS (by first | rfl | assumption) ?_ | refine pL_l hS (by first | rfl | assumption) ?_ | refine pL_la hS (by rfl) ?_ | (refine pN_s hS (by first | exact Nat.le_of_ble_eq_true rfl | assumption) (by rfl) ?_; clear hS; intro w hS; try simp only [List.set_cons_zero, List.set_cons_succ] at hS) | (refine pDr_go hS ?_; clear hS; intro w hS) | (refine pN_bx hS (by rfl) ?_; clear hS; intro a w hS) | refine ⟨trivial, ?_⟩ | fail)
  simp only [if_pos (show 0 ≤ i ∧ i < l.length from ⟨h0, h1⟩)] at hS
  exact hQ _ hS.to

/-- The closure of Bit, where the decoder refuses. -/
theorem BitC_ref {p x7 x6 x3 x4 x5 : Nat} {i bit e0 : Int} {k : Nat} {R C e : Int} (he : e ≠ 0)
    (hS : Sat E w (Dec d st :: cel x3 ⟨75, [.pointer (some ⟨d, 0, none⟩)]⟩ :: cel x4 ⟨34, [.pointer (some ⟨p, 0, none⟩)]⟩ :: cel x5 ⟨3, [.int .i64 i]⟩ :: cel x6 ⟨3, [.int .i64 bit]⟩ :: cel x7 ⟨27, [.int .i64 e0]⟩ :: M))
    (hQ : ∀ w, Sat E w (Dec d ⟨st.b, k, R, C⟩ :: cel x3 ⟨75, [.pointer (some ⟨d, 0, none⟩)]⟩ :: cel x4 ⟨34, [.pointer (some ⟨p, 0, none⟩)]⟩ :: cel x5 ⟨3, [.int .i64 i]⟩ :: cel x6 ⟨3, [.int .i64 0]⟩ :: cel x7 ⟨27, [.int .i64 e]⟩ :: M) → Q (.tuple #[]) w) :
    rcdec_Decoder_Bit_c1.F (refd e) (.agg #[.int .i64 k, .int .u32 R, .int .u32 C]) (.pointer (some ⟨x3, 0, none⟩)) (.pointer (some ⟨x7, 0, none⟩)) (.pointer (some ⟨x6, 0, none⟩)) (.pointer (some ⟨x4, 0, none⟩)) (.pointer (some ⟨x5, 0, none⟩)) w Q := by
  unfold rcdec_Decoder_Bit_c1.F
  repeat' (first | (refine pc_rcdec_Decoder_back (back_ref (hS.fd (Dec d)) k R C e ?_); clear hS; intro w hS) | (refine pN_neq_s ?_ ?_ <;> intro hc <;> try (exfalso; first | omega | exact hc rfl | exact hc (by assumption) | exact absurd hc (by assumption))) | refine pIf_t ?_ | refine pN_l hS (by first | rfl | assumption) ?_ | refine pL_l hS (by first | rfl | assumption) ?_ | refine pL_la hS (by rfl) ?_ | (refine pN_s hS (by first | exact Nat.le_of_ble_eq_true rfl | assumption) (by rfl) ?_; clear hS; intro w hS; try simp only [List.set_cons_zero, List.set_cons_succ] at hS) | (refine pDr_go hS ?_; clear hS; intro w hS) | (refine pN_bx hS (by rfl) ?_; clear hS; intro a w hS) | refine ⟨trivial, ?_⟩ | fail)
  exact hQ _ hS.to

theorem DBit_ok {p : Nat} {l : List Int} (hS : Sat E w (Dec d st :: PSet p l :: M)) (ho : D.Ok st) (hf : B.Fine l) (hb : st.b.length ≤ 225000000000000) (i : Int)
    (hno : ¬ (0 ≤ i ∧ i < l.length) → ∀ w, Sat E w (Dec d st :: PSet p l :: M) → Q (.tuple #[.int .i64 0, .int .i64 7]) w)
    (hok : ∀ t v w, 0 ≤ i → i < l.length → st.bit (B.bound st.R (l.getD i.toNat 0)) = .ok t v → Sat E w (Dec d t :: PSet p (l.set i.toNat (B.next (l.getD i.toNat 0) v)) :: M) → Q (.tuple #[.int .i64 v, .int .i64 0]) w)
    (hre : ∀ e w, 0 ≤ i → i < l.length → st.bit (B.bound st.R (l.getD i.toNat 0)) = .no e → Sat E w (Dec d st :: PSet p l :: M) → Q (.tuple #[.int .i64 0, .int .i64 e]) w) :
    Calls Try.prog 49 #[.pointer (some ⟨d, 0, none⟩), .pointer (some ⟨p, 0, none⟩), .int .i64 i] w (retP Q) := by
  refine rcdec_Decoder_Bit.calls ?_
  unfold rcdec_Decoder_Bit.F
  by_cases h : 0 ≤ i ∧ i < l.length
  rotate_left 1
  · repeat' (first | (refine pc_prob_Set_At (At_no (hS.fd (PSet p)) i h ?_); clear hS; intro w hS) | (refine pN_neq_s ?_ ?_ <;> intro hc <;> try (exfalso; first | omega | exact hc rfl | exact hc (by assumption) | exact absurd hc (by assumption))) | refine pIf_t ?_ | refine pN_l hS (by first | rfl | assumption) ?_ | refine pL_l hS (by first | rfl | assumption) ?_ | refine pL_r hS (by rfl) ?_ | (refine pN_s hS (by first | exact Nat.le_of_ble_eq_true rfl | assumption) (by rfl) ?_; clear hS; intro w hS; try simp only [List.set_cons_zero, List.set_cons_succ] at hS) | (refine pDr_go hS ?_; clear hS; intro w hS) | (refine pN_nz hS ?_; clear hS; intro a w hS) | (refine pN_bx hS (by rfl) ?_; clear hS; intro a w hS) | refine ⟨trivial, ?_⟩ | refine ⟨⟨(by first | exact run_l hS (by first | rfl | assumption) | exact run_st hS (by first | rfl | omega) | exact run_ld1 ha hS | exact fun _ => run_l hS (by rfl) | exact fun _ => run_st hS (by first | rfl | omega) | exact fun _ => run_ld1 ha hS | exact fun h => Bool.noConfusion h), trivial⟩, ?_⟩ | refine pN_via (by (intro K; simp (disch := omega) only [go_sem, pN_min, pN_max, w_u32, w_u64, Option.isNone_some, Option.isNone_none]; (try simp only [wrap_u32, wrap_u64]); rfl)) ?_ | fail)
    exact hno h _ hS.to
  obtain ⟨x, hx⟩ : ∃ x, l[i.toNat]? = some x := ⟨l[i.toNat]'(by omega), by simp⟩
  have hxe : l.getD i.toNat 0 = x := by rw [List.getD_eq_getElem?_getD, hx]; rfl
  rw [hxe] at hok hre
  have hxf := hf.get hx
  have hmid := D.bound_mid ho.r0 hxf.1 hxf.2
  have q1 := ho.r0
  have q2 := ho.r1
  have q3 := ho.c0
  have q4 := ho.c1
  have hco := ho.cut hmid.1 hmid.2
  repeat' (first | (refine pc_prob_Set_At (At_in (hS.fd (PSet p)) i h.1 hx ?_); clear hS; intro w hS) | (refine pN_neq_s ?_ ?_ <;> intro hc <;> try (exfalso; first | omega | exact hc rfl | exact hc (by assumption) | exact absurd hc (by assumption))) | refine pIf_f ?_ | refine pN_l hS (by first | rfl | assumption) ?_ | (refine pN_s hS (by first | exact Nat.le_of_ble_eq_true rfl | assumption) (by rfl) ?_; clear hS; intro w hS; try simp only [List.set_cons_zero, List.set_cons_succ] at hS) | (refine pN_nz hS ?_; clear hS; intro a w hS) | (refine pN_bx hS (by rfl) ?_; clear hS; intro a w hS) | refine pN_fn ?_ | refine pN_via (by (intro K; simp (disch := omega) only [go_sem, pN_min, pN_max, w_u32, w_u64, Option.isNone_some, Option.isNone_none]; (try simp only [wrap_u32, wrap_u64]); rfl)) ?_ | fail)
  rename_i x3 _ x4 _ x5 _ x6 _ _ _
  clear hc
  revert a
  intro x7 hS
  have hS : Sat E w (Dec d st :: cel x3 ⟨75, [.pointer (some ⟨d, 0, none⟩)]⟩ :: cel x4 ⟨34, [.pointer (some ⟨p, 0, none⟩)]⟩ :: cel x5 ⟨3, [.int .i64 i]⟩ :: cel x6 ⟨3, [.int .i64 0]⟩ :: cel x7 ⟨27, [.int .i64 0]⟩ :: PSet p l :: M) := hS.to
  obtain ⟨s, hS⟩ := Dec.opn hS
  refine pN_la_at hS [.int .i64 st.k, .int .u32 st.R, .int .u32 st.C] rfl rfl ?_
  refine pDf_fn ?_
  let Z : Pan := ⟨fun ch w => ch = [{ v := refd 1, recovered := false }] ∧ (st.cut (B.bound st.R x)).widen = none ∧ ∃ (bit e0 : Int) (st' : D.S), st'.b = st.b ∧ Sat E w (Dec d st' :: cel x3 ⟨75, [.pointer (some ⟨d, 0, none⟩)]⟩ :: cel x4 ⟨34, [.pointer (some ⟨p, 0, none⟩)]⟩ :: cel x5 ⟨3, [.int .i64 i]⟩ :: cel x6 ⟨3, [.int .i64 bit]⟩ :: cel x7 ⟨27, [.int .i64 e0]⟩ :: PSet p l :: M)⟩
  refine ⟨Z, ?_, ?_⟩
  · clear hS
    rintro ch w ⟨rfl, hnone, bit, e0, st', hb', hS⟩
    refine dE_of call_rcdec_Decoder_Bit_c1 (u2 := .panicking [{ v := refd 1, recovered := true }]) (cap := [.pointer (some ⟨x3, 0, none⟩), .pointer (some ⟨x7, 0, none⟩), .pointer (some ⟨x6, 0, none⟩), .pointer (some ⟨x4, 0, none⟩), .pointer (some ⟨x5, 0, none⟩)]) (args := [.agg #[.int .i64 st.k, .int .u32 st.R, .int .u32 st.C]])
      (Q := fun r w => Sat E w (Dec d st :: cel x3 ⟨75, [.pointer (some ⟨d, 0, none⟩)]⟩ :: cel x4 ⟨34, [.pointer (some ⟨p, 0, none⟩)]⟩ :: cel x5 ⟨3, [.int .i64 i]⟩ :: cel x6 ⟨3, [.int .i64 0]⟩ :: cel x7 ⟨27, [.int .i64 1]⟩ :: PSet p l :: M)) rfl ?_ (rcdec_Decoder_Bit_c1.panics (BitC_ref (by decide) hS fun w hS => ?_))
    · clear hS
      rintro _ w hS
      repeat' (first | refine pL_r hS (by rfl) ?_ | fail)
      exact hre 1 _ h.1 h.2 (by rw [D.S.bit, hnone]) hS.to
    · rw [hb'] at hS
      exact hS
  · refine ⟨fun w => Sat E w (Dec d (st.cut (B.bound st.R x)) :: cel x3 ⟨75, [.pointer (some ⟨d, 0, none⟩)]⟩ :: cel x4 ⟨34, [.pointer (some ⟨p, 0, none⟩)]⟩ :: cel x5 ⟨3, [.int .i64 i]⟩ :: cel x6 ⟨3, [.int .i64 (st.bitAt (B.bound st.R x))]⟩ :: cel x7 ⟨27, [.int .i64 0]⟩ :: PSet p l :: M), ?_, ?_⟩
    · repeat' (first | refine pL_l hS (by first | rfl | assumption) ?_ | (refine pDr_go hS ?_; clear hS; intro w hS) | refine pA_via (by (intro K; simp (disch := omega) only [go_sem, pN_min, pN_max, w_u32, w_u64, Option.isNone_some, Option.isNone_none]; (try simp only [wrap_u32, wrap_u64]); rfl)) ?_ | fail)
      refine pc_prob_Bound (Calls.up (Bound_ok st.R x (by omega) (by omega) ?_))
      have hc0 := B.bound_pos (rng := st.R) (p := x) q1 hxf.1
      have hc1 := B.bound_lt (rng := st.R) (p := x) q1
      have hS := Dec.shut (d := d) (s := s) hS st rfl rfl
      have hv : st.bitAt (B.bound st.R x) = if st.C < B.bound st.R x then 0 else 1 := rfl
      repeat' (first | refine ⟨⟨(by first | exact run_l hS (by first | rfl | assumption) | exact run_st hS (by first | rfl | omega) | exact run_ld1 ha hS | exact fun _ => run_l hS (by rfl) | exact fun _ => run_st hS (by first | rfl | omega) | exact fun _ => run_ld1 ha hS | exact fun h => Bool.noConfusion h), trivial⟩, ?_⟩ | fail)
      refine pc_rcdec_Decoder_upper (Calls.up (upper_ok (hS.fd (Dec d)) (B.bound st.R x) (by omega) (fun _ => trivial) (by omega) q2 q3 q4 fun w hS => ?_))
      by_cases hlt : st.C < B.bound st.R x
      · rw [decide_eq_false (by omega)]
        rw [if_pos hlt] at hv
        rw [hv]
        repeat' (first | refine pIf_f ?_ | refine ⟨trivial, ?_⟩ | fail)
        exact hS.to
      · rw [decide_eq_true hlt]
        rw [if_neg hlt] at hv
        rw [hv]
        repeat' (first | refine pIf_t ?_ | (refine pN_s hS (by first | exact Nat.le_of_ble_eq_true rfl | assumption) (by rfl) ?_; clear hS; intro w hS; try simp only [List.set_cons_zero, List.set_cons_succ] at hS) | refine ⟨trivial, ?_⟩ | fail)
        exact hS.to
    · clear hS
      intro _ w hS
      repeat' (first | refine pN_l hS (by first | rfl | assumption) ?_ | fail)
      refine pc_rcdec_Decoder_widen (Dwiden_ok (hS.fd (Dec d)) hco.k (by rw [hco.b]; exact hb) (by have := hco.r0; omega) hco.c0 hco.c1 (fun t w ht hS => ?_) fun w hnone hS => ?_)
      · repeat' (first | refine pN_l hS (by first | rfl | assumption) ?_ | (refine pN_s hS (by first | exact Nat.le_of_ble_eq_true rfl | assumption) (by rfl) ?_; clear hS; intro w hS; try simp only [List.set_cons_zero, List.set_cons_succ] at hS) | fail)
        have hS : Sat E _ (Dec d t :: PSet p l :: cel x3 ⟨75, [.pointer (some ⟨d, 0, none⟩)]⟩ :: cel x4 ⟨34, [.pointer (some ⟨p, 0, none⟩)]⟩ :: cel x5 ⟨3, [.int .i64 i]⟩ :: cel x6 ⟨3, [.int .i64 (st.bitAt (B.bound st.R x))]⟩ :: cel x7 ⟨27, [.int .i64 0]⟩ :: M) := hS.to
        refine dE_of call_rcdec_Decoder_Bit_c1 (u2 := .returning) (cap := [.pointer (some ⟨x3, 0, none⟩), .pointer (some ⟨x7, 0, none⟩), .pointer (some ⟨x6, 0, none⟩), .pointer (some ⟨x4, 0, none⟩), .pointer (some ⟨x5, 0, none⟩)]) (args := [.agg #[.int .i64 st.k, .int .u32 st.R, .int .u32 st.C]])
          (Q := fun r w => Sat E w (Dec d t :: PSet p (l.set i.toNat (B.next x (st.bitAt (B.bound st.R x)))) :: cel x3 ⟨75, [.pointer (some ⟨d, 0, none⟩)]⟩ :: cel x4 ⟨34, [.pointer (some ⟨p, 0, none⟩)]⟩ :: cel x5 ⟨3, [.int .i64 i]⟩ :: cel x6 ⟨3, [.int .i64 (st.bitAt (B.bound st.R x))]⟩ :: cel x7 ⟨27, [.int .i64 0]⟩ :: M)) rfl ?_ (rcdec_Decoder_Bit_c1.idles (BitC_idle hS h.1 h.2 fun w hS => ?_))
        · clear hS
          rintro _ w hS
          repeat' (first | refine pL_r hS (by rfl) ?_ | fail)
          exact hok t _ _ h.1 h.2 (by rw [D.S.bit, ht]) hS.to
        · rw [hxe] at hS
          exact hS
      · exact ⟨rfl, hnone, st.bitAt (B.bound st.R x), 0, st.cut (B.bound st.R x), hco.b, hS⟩
end

end Go.Proofs.Ytoejaggkedlfmaa

namespace Go.Proofs.Ytoejaggkedlfmaa
open Go
set_option linter.unusedSimpArgs false
set_option linter.unnecessarySimpa false
set_option linter.unusedSectionVars false
set_option linter.unusedVariables false
section
variable [Pan] {P : Program} {t e : TypeId} {z : Value} {size bytes : Nat} {v : Value} {E w : World} {L M : List HA} {K : Value → World → Prop}

theorem pN_append_wide (ht : SlT P t e z size bytes) {ty : TypeId} {cs : List Bool} {n m : Nat} {xs news : List Value} {src : Value} (hS : Sat E w (own e size v n xs :: L)) (hr : Rd w size src m news) (h1 : ∀ u ∈ news, u.oneCell' = true)
    (hb : ((n + m) + (n + m) / 4 + 192) * bytes ≤ 281474976710656) (h63 : n + m ≤ 9223372036854775807)
    (h : ∀ v' w', Sat E w' (own e size v' (n + m) (xs ++ news) :: L) → K v' w') : pN P (oBi .append #[t, t] ty cs [v, src]) w K := by
  obtain ⟨i, hi, hz, hs, hby⟩ := ht.info
  obtain ⟨hl, ao, cap, rfl, hmc, hnil, hc⟩ := hr
  have hown := hS.own_at 0 rfl
  rw [pN_def]
  cases ao with
  | none =>
    obtain ⟨rfl, rfl⟩ := hnil rfl
    have hrun := run_append_owned_none (P := P) w 0 t ty e i size ht.under hi v n xs hown
    have : news = [] := List.length_eq_zero_iff.1 (by simpa using hl)
    subst this
    have e : (oBi .append #[t, t] ty cs [v, .slice none 0 0]).run P w = .ok (.value v) w := run_oV_ok hrun
    rw [e]
    exact h _ _ (by simpa using hS)
  | some a =>
    obtain ⟨v', w', hrun, hown', hgr, hni⟩ := run_append_own_wide (P := P) w 0 t ty e i z size bytes ht.under hi hz hs hby ht.zsize ht.pos v n xs hown a m cap news hl (hc a rfl) h1 (by unfold maxLen; omega) hb (Nat.zero_le _)
    have hblk : v'.ownBlock = v.ownBlock ∨ v'.ownBlock = some w.heap.size := by
      subst hs hby
      rcases hown.2 with ⟨rfl, rfl⟩ | ⟨g, c, cur, rfl, _, hg, _, _, hcs, _⟩
      · by_cases hm : m = 0
        · left
          rw [hni.2 ⟨rfl, hm⟩]
        · right
          have hx : xs = [] := List.eq_nil_of_length_eq_zero (by simpa using hown.1)
          have hr := run_append_nil (P := P) w t ty e i z ht.under hi hz a m cap news hl (hc a rfl) (by omega) (by omega) (by have hb := hb; simp only [Nat.zero_add] at hb; exact Nat.le_trans (Nat.mul_le_mul_right _ (by omega)) hb)
          have := hr.symm.trans hrun
          injection this with h1 h2
          rw [← h1]; rfl
      · by_cases hroom : n + m ≤ c
        · left
          have hfit : n * i.size + news.length ≤ cur.size := by rw [hl, hcs, ← Nat.add_mul]; exact Nat.mul_le_mul_right _ hroom
          have hr := run_append_room (P := P) w t ty e i ht.under hi g n c cur hg a m cap news hl (hc a rfl) h1 hroom hfit
          have := hr.symm.trans hrun
          injection this with h1 h2
          rw [← h1]; rfl
        · right
          have holds : ∀ j u, xs[j]? = some u → w.cell? ((⟨g, 0, none⟩ : Addr).add j) = some u := hown.cells (g := g) rfl
          have hr := run_append_grow (P := P) w t ty e i z ht.under hi hz ⟨g, 0, none⟩ n c xs hown.1 holds a m cap news hl (hc a rfl) (by omega) (by omega) (growslice_fits_wide (by omega) hb)
          have := hr.symm.trans hrun
          injection this with h1 h2
          rw [← h1]; rfl
    have e : (oBi .append #[t, t] ty cs [v, .slice (some a) m cap]).run P w = .ok (.value v') w' := run_oV_ok hrun
    rw [e]
    exact h _ _ (hS.grown hgr hown' hblk)
end

section
variable [Pan] {P : Program} {t ty : TypeId} {α : Type} {C : Cd α} {E w : World} {L M : List HA} {s s2 : Sl} {l m : List α} {n n2 : Nat} {K : Value → World → Prop}
theorem pN_appw {cs : List Bool} (hS : Sat E w L) [hw : Row P t α C] [hf : Fnd (rows C s) L l M] [hr : Rds C L s2 m] {z : Nat} [hz : Bt C z] (hn : n = l.length) (hn2 : n2 = m.length) (hb : ((l.length + m.length) + (l.length + m.length) / 4 + 192) * z ≤ 281474976710656)
    (hk : ∀ s' w', Sat E w' (rows C s' (l ++ m) :: M) → K (.slice s'.a (l ++ m).length s'.c) w') : pN P (oBi .append #[t, t] ty cs [.slice s.a n s.c, .slice s2.a n2 s2.c]) w K := by
  subst hn hn2
  rw [← hz.eq] at hb
  have h0 := hS.fd (rows C s)
  have hrd := hS.rds (C := C) (s := s2)
  have hp := hw.bpos
  have h63 : l.length + m.length ≤ 9223372036854775807 := by
    have : (l.length + m.length + (l.length + m.length) / 4 + 192) * 1 ≤ (l.length + m.length + (l.length + m.length) / 4 + 192) * C.bytes := Nat.mul_le_mul_left _ hp
    omega
  refine pN_append_wide Row.slt h0 hrd (C.flat_one m) hb h63 fun v' w' h1 => ?_
  obtain ⟨s', rfl⟩ := own_sl h1
  rw [← C.flat_append, ← List.length_append] at h1
  rw [← List.length_append]
  exact hk s' w' h1
theorem pN_appw0 {cs : List Bool} (hS : Sat E w L) [hw : Row P t α C] [hr : Rds C L s2 m] {z : Nat} [hz : Bt C z] (hn2 : n2 = m.length) (hb : (m.length + m.length / 4 + 192) * z ≤ 281474976710656)
    (hk : ∀ s' w', Sat E w' (rows C s' m :: L) → K (.slice s'.a m.length s'.c) w') : pN P (oBi .append #[t, t] ty cs [.slice none 0 0, .slice s2.a n2 s2.c]) w K := by
  have h0 : Sat E w (rows C ⟨none, 0⟩ [] :: L) := hS.nil C.e C.size
  haveI : Rds C (rows C ⟨none, 0⟩ [] :: L) s2 m := ⟨fun E w hS => hr.rd E w hS.drop⟩
  refine pN_appw (s := ⟨none, 0⟩) (l := []) h0 rfl hn2 (by simpa using hb) fun s' w' h => ?_
  rw [List.nil_append] at h ⊢
  exact hk s' w' h
end

end Go.Proofs.Ytoejaggkedlfmaa

namespace Go.Proofs.Ytoejaggkedlfmaa
open Go
set_option linter.unusedSimpArgs false
set_option linter.unnecessarySimpa false
set_option linter.unusedSectionVars false
set_option linter.unusedVariables false
attribute [local irreducible] oMv oV oU oCall oCallV oBi oBin oUn oLoad oStore oNil oFld oField oIdx oIndex oPick oAlloc oBox oBuild oBs oConv oMk oSl oExt oFn oIface oMap oLook oMapUp oRange oNext oAssert oPanic oRes pN pA pL pDr pIf gA pGd
attribute [local irreducible] oDf pDf dE

section
variable {E w : World} {M : List HA} {Q : Value → World → Prop} {d : Nat} {st : D.S}

/-- The closure of Direct, where nothing panics. -/
theorem DirC_idle {x2 x4 x5 : Nat} {v : Int} {k R C : Int}
    (hS : Sat E w (Dec d st :: cel x2 ⟨75, [.pointer (some ⟨d, 0, none⟩)]⟩ :: cel x4 ⟨26, [.int .u32 v]⟩ :: cel x5 ⟨27, [.int .i64 0]⟩ :: M))
    (hQ : ∀ w, Sat E w (Dec d st :: cel x2 ⟨75, [.pointer (some ⟨d, 0, none⟩)]⟩ :: cel x4 ⟨26, [.int .u32 v]⟩ :: cel x5 ⟨27, [.int .i64 0]⟩ :: M) → Q (.tuple #[]) w) :
    rcdec_Decoder_Direct_c1.F .nilIface (.agg #[.int .i64 k, .int .u32 R, .int .u32 C]) (.pointer (some ⟨x2, 0, none⟩)) (.pointer (some ⟨x5, 0, none⟩)) (.pointer (some ⟨x4, 0, none⟩)) w Q := by
  unfold rcdec_Decoder_Direct_c1.F
  repeat' (first | (refine pc_rcdec_Decoder_back (back_nil (d := d) hS ?_); clear hS; intro w hS) | (refine pN_neq_s ?_ ?_ <;> intro hc <;> try (exfalso; first | omega | exact hc rfl | exact hc (by assumption) | exact absurd hc (by assumption))) | refine pIf_f ?_ | refine pN_l hS (by first | rfl | assumption) ?_ | refine pL_l hS (by first | rfl | assumption) ?_ | refine pL_la hS (by rfl) ?_ | (refine pN_s hS (by first | exact Nat.le_of_ble_eq_true rfl | assumption) (by rfl) ?_; clear hS; intro w hS; try simp only [List.set_cons_zero, List.set_cons_succ] at hS) | (refine pDr_go hS ?_; clear hS; intro w hS) | (refine pN_bx hS (by rfl) ?_; clear hS; intro a w hS) | refine ⟨trivial, ?_⟩ | fail)
  exact hQ _ hS.to

/-- The closure of Direct, where the decoder refuses. -/
theorem DirC_ref {x2 x4 x5 : Nat} {v e0 : Int} {k : Nat} {R C e : Int} (he : e ≠ 0)
    (hS : Sat E w (Dec d st :: cel x2 ⟨75, [.pointer (some ⟨d, 0, none⟩)]⟩ :: cel x4 ⟨26, [.int .u32 v]⟩ :: cel x5 ⟨27, [.int .i64 e0]⟩ :: M))
    (hQ : ∀ w, Sat E w (Dec d ⟨st.b, k, R, C⟩ :: cel x2 ⟨75, [.pointer (some ⟨d, 0, none⟩)]⟩ :: cel x4 ⟨26, [.int .u32 0]⟩ :: cel x5 ⟨27, [.int .i64 e]⟩ :: M) → Q (.tuple #[]) w) :
    rcdec_Decoder_Direct_c1.F (refd e) (.agg #[.int .i64 k, .int .u32 R, .int .u32 C]) (.pointer (some ⟨x2, 0, none⟩)) (.pointer (some ⟨x5, 0, none⟩)) (.pointer (some ⟨x4, 0, none⟩)) w Q := by
  unfold rcdec_Decoder_Direct_c1.F
  repeat' (first | (refine pc_rcdec_Decoder_back (back_ref (hS.fd (Dec d)) k R C e ?_); clear hS; intro w hS) | (refine pN_neq_s ?_ ?_ <;> intro hc <;> try (exfalso; first | omega | exact hc rfl | exact hc (by assumption) | exact absurd hc (by assumption))) | refine pIf_t ?_ | refine pN_l hS (by first | rfl | assumption) ?_ | refine pL_l hS (by first | rfl | assumption) ?_ | refine pL_la hS (by rfl) ?_ | (refine pN_s hS (by first | exact Nat.le_of_ble_eq_true rfl | assumption) (by rfl) ?_; clear hS; intro w hS; try simp only [List.set_cons_zero, List.set_cons_succ] at hS) | (refine pDr_go hS ?_; clear hS; intro w hS) | (refine pN_bx hS (by rfl) ?_; clear hS; intro a w hS) | refine ⟨trivial, ?_⟩ | fail)
  exact hQ _ hS.to

set_option maxHeartbeats 2000000 in
theorem DDirect_ok (hS : Sat E w (Dec d st :: M)) (ho : D.Ok st) (hb : st.b.length ≤ 225000000000000) (n : Int)
    (hno : ¬ (0 ≤ n ∧ n ≤ 32) → ∀ w, Sat E w (Dec d st :: M) → Q (.tuple #[.int .u32 0, .int .i64 7]) w)
    (hok : ∀ t v w, 0 ≤ n → n ≤ 32 → st.direct 0 n.toNat = .ok t v → Sat E w (Dec d t :: M) → Q (.tuple #[.int .u32 v, .int .i64 0]) w)
    (hre : ∀ e w, 0 ≤ n → n ≤ 32 → st.direct 0 n.toNat = .no e → Sat E w (Dec d st :: M) → Q (.tuple #[.int .u32 0, .int .i64 e]) w) :
    Calls Try.prog 47 #[.pointer (some ⟨d, 0, none⟩), .int .i64 n] w (retP Q) := by
  refine rcdec_Decoder_Direct.calls ?_
  unfold rcdec_Decoder_Direct.F
  by_cases h : 0 ≤ n ∧ n ≤ 32
  rotate_left 1
  · repeat' (first | ((first | refine pN_lss_s ?_ ?_ | refine pN_gtr_s ?_ ?_) <;> intro hc <;> try (exfalso; omega)) | refine pIf_t ?_ | refine pGd_go (by rfl) ?_ | refine pGd_no (by rfl) ?_ | refine pL_r hS (by rfl) ?_ | (refine pN_s hS (by first | exact Nat.le_of_ble_eq_true rfl | assumption) (by rfl) ?_; clear hS; intro w hS; try simp only [List.set_cons_zero, List.set_cons_succ] at hS) | (refine pN_nz hS ?_; clear hS; intro a w hS) | (refine pN_bx hS (by rfl) ?_; clear hS; intro a w hS) | refine pN_via (by (intro K; simp (disch := omega) only [go_sem, pN_min, pN_max, w_u32, w_u64, Option.isNone_some, Option.isNone_none]; (try simp only [wrap_u32, wrap_u64]); rfl)) ?_ | fail)
    all_goals exact hno h _ hS.to
  obtain ⟨m, rfl⟩ : ∃ m : Nat, n = m := ⟨n.toNat, by omega⟩
  rw [Int.toNat_natCast] at hok hre
  repeat' (first | ((first | refine pN_lss_s ?_ ?_ | refine pN_gtr_s ?_ ?_) <;> intro hc <;> try (exfalso; omega)) | refine pIf_f ?_ | refine pGd_go (by rfl) ?_ | refine pN_l hS (by first | rfl | assumption) ?_ | (refine pN_nz hS ?_; clear hS; intro a w hS) | (refine pN_bx hS (by rfl) ?_; clear hS; intro a w hS) | refine pN_fn ?_ | refine pN_via (by (intro K; simp (disch := omega) only [go_sem, pN_min, pN_max, w_u32, w_u64, Option.isNone_some, Option.isNone_none]; (try simp only [wrap_u32, wrap_u64]); rfl)) ?_ | fail)
  rename_i x2 _ x4 _ _
  revert a
  intro x5 hS
  have hS : Sat E w (Dec d st :: cel x2 ⟨75, [.pointer (some ⟨d, 0, none⟩)]⟩ :: cel x4 ⟨26, [.int .u32 0]⟩ :: cel x5 ⟨27, [.int .i64 0]⟩ :: M) := hS.to
  obtain ⟨s, hS⟩ := Dec.opn hS
  refine pN_la_at hS [.int .i64 st.k, .int .u32 st.R, .int .u32 st.C] rfl rfl ?_
  refine pDf_fn ?_
  let Z : Pan := ⟨fun ch w => ∃ (e : Int), ch = [{ v := refd e, recovered := false }] ∧ e ≠ 0 ∧ st.direct 0 m = .no e ∧ ∃ (v e0 : Int) (st' : D.S), st'.b = st.b ∧ Sat E w (Dec d st' :: cel x2 ⟨75, [.pointer (some ⟨d, 0, none⟩)]⟩ :: cel x4 ⟨26, [.int .u32 v]⟩ :: cel x5 ⟨27, [.int .i64 e0]⟩ :: M)⟩
  refine ⟨Z, ?_, ?_⟩
  · clear hS
    rintro ch w ⟨e, rfl, hne, hnone, v, e0, st', hb', hS⟩
    refine dE_of call_rcdec_Decoder_Direct_c1 (u2 := .panicking [{ v := refd e, recovered := true }]) (cap := [.pointer (some ⟨x2, 0, none⟩), .pointer (some ⟨x5, 0, none⟩), .pointer (some ⟨x4, 0, none⟩)]) (args := [.agg #[.int .i64 st.k, .int .u32 st.R, .int .u32 st.C]])
      (Q := fun r w => Sat E w (Dec d st :: cel x2 ⟨75, [.pointer (some ⟨d, 0, none⟩)]⟩ :: cel x4 ⟨26, [.int .u32 0]⟩ :: cel x5 ⟨27, [.int .i64 e]⟩ :: M)) rfl ?_ (rcdec_Decoder_Direct_c1.panics (DirC_ref hne hS fun w hS => ?_))
    · clear hS
      rintro _ w hS
      repeat' (first | refine pL_r hS (by rfl) ?_ | fail)
      exact hre e _ h.1 h.2 hnone hS.to
    · rw [hb'] at hS
      exact hS
  · have hS : Sat E w (Dec d st :: cel x2 ⟨75, [.pointer (some ⟨d, 0, none⟩)]⟩ :: cel x4 ⟨26, [.int .u32 0]⟩ :: cel x5 ⟨27, [.int .i64 0]⟩ :: M) := Dec.shut (d := d) (s := s) hS st rfl rfl
    refine ⟨fun i w => ∃ (j : Nat) (t : D.S) (v : Int), i = .int .i64 j ∧ j ≤ m ∧ D.Ok t ∧ t.b = st.b ∧ 0 ≤ v ∧ v < 2 ^ j ∧ t.direct v (m - j) = st.direct 0 m ∧ Sat E w (Dec d t :: cel x2 ⟨75, [.pointer (some ⟨d, 0, none⟩)]⟩ :: cel x4 ⟨26, [.int .u32 v]⟩ :: cel x5 ⟨27, [.int .i64 0]⟩ :: M), fun i _ => m - (RowKit.intOf i).toNat, ⟨0, st, 0, rfl, Nat.zero_le _, ho, rfl, by omega, by simp, rfl, hS⟩, ?_⟩
    clear hS
    rintro _ _ w ⟨j, t, v, rfl, hj, hot, htb, v0, v1, htd, hS⟩
    by_cases hlt : j < m
    · rw [show m - j = (m - (j + 1)) + 1 from by omega, D.S.direct] at htd
      have h32 : (2 : Int) ^ j ≤ 2147483648 := by
        have : (2 : Int) ^ 31 = 2147483648 := by decide
        rw [← this]
        exact R.two_le (by omega)
      have q0 := hot.r0
      have q1 := hot.r1
      have q2 := hot.c0
      have q3 := hot.c1
      have one := hot.one
      have o1 := one.c1
      have hbit : t.bitAt (t.R / 2) = if t.C < t.R / 2 then 0 else 1 := rfl
      have e1 : t.one = if t.C < t.R / 2 then ⟨t.b, t.k, t.R / 2, t.C⟩ else ⟨t.b, t.k, t.R / 2, t.C - t.R / 2⟩ := rfl
      have oR : t.one.R = t.R / 2 := by rw [e1]; split <;> rfl
      have ok : t.one.k = t.k := by rw [e1]; split <;> rfl
      obtain ⟨s, hS⟩ := Dec.opn hS
      repeat' (first | (refine pN_lss_s ?_ ?_ <;> intro hc <;> try (exfalso; omega)) | refine pIf_t ?_ | fail)
      refine ⟨fun w => ∃ t2 : D.S, t.one.widen = some t2 ∧ ¬ t.one.R ≤ t.one.C ∧ Sat E w (Dec d t2 :: cel x2 ⟨75, [.pointer (some ⟨d, 0, none⟩)]⟩ :: cel x4 ⟨26, [.int .u32 (2 * v + t.bitAt (t.R / 2))]⟩ :: cel x5 ⟨27, [.int .i64 0]⟩ :: M), ?_, ?_⟩
      rotate_left 1
      · clear hS
        rintro _ w ⟨t2, ht2, hnle, hS⟩
        rw [if_neg hnle, ht2] at htd
        have ho2 := one.widen (by omega) ht2
        have hb01 := D.bitAt_01 t (t.R / 2)
        repeat' (first | refine pN_via (by (intro K; simp (disch := omega) only [go_sem, pN_min, pN_max, w_u32, w_u64, Option.isNone_some, Option.isNone_none]; (try simp only [wrap_u32, wrap_u64]); rfl)) ?_ | fail)
        refine ⟨⟨j + 1, t2, 2 * v + t.bitAt (t.R / 2), rfl, by omega, ho2.1, ho2.2.trans htb, by omega, by rw [Int.pow_succ]; omega, htd, hS.to⟩, by simp [RowKit.intOf] <;> omega⟩
      repeat' (first | refine pN_l hS (by first | rfl | assumption) ?_ | (refine pN_s hS (by first | exact Nat.le_of_ble_eq_true rfl | assumption) (by rfl) ?_; clear hS; intro w hS; try simp only [List.set_cons_zero, List.set_cons_succ] at hS) | refine pN_via (by (intro K; simp (disch := omega) only [go_sem, pN_min, pN_max, w_u32, w_u64, Option.isNone_some, Option.isNone_none]; (try simp only [wrap_u32, wrap_u64]); rfl)) ?_ | fail)
      refine ⟨fun w => Sat E w (cel d ⟨149, [.slice s.a t.b.length s.c, .int .i64 t.k, .int .u32 t.R, .int .u32 t.one.C]⟩ :: rows cd_uint8 s t.b :: cel x2 ⟨75, [.pointer (some ⟨d, 0, none⟩)]⟩ :: cel x4 ⟨26, [.int .u32 (2 * v + t.bitAt (t.R / 2))]⟩ :: cel x5 ⟨27, [.int .i64 0]⟩ :: M), ?_, ?_⟩
      · by_cases hge : t.C < t.R / 2
        · rw [if_pos hge] at hbit e1
          have e2 : 2 * v + t.bitAt (t.R / 2) = v * 2 := by omega
          rw [e2, e1]
          repeat' (first | (refine pN_geq_s ?_ ?_ <;> intro hc <;> try (exfalso; omega)) | refine pIf_f ?_ | refine pN_l hS (by first | rfl | assumption) ?_ | refine pN_via (by (intro K; simp (disch := omega) only [go_sem, pN_min, pN_max, w_u32, w_u64, Option.isNone_some, Option.isNone_none]; (try simp only [wrap_u32, wrap_u64]); rfl)) ?_ | fail)
          exact hS.to
        · rw [if_neg hge] at hbit e1
          have e2 : 2 * v + t.bitAt (t.R / 2) = v * 2 + 1 := by omega
          rw [e2, e1]
          repeat' (first | refine pN_orl 2 1 (by decide) (by omega) (by omega) (by omega) ?_ | (refine pN_geq_s ?_ ?_ <;> intro hc <;> try (exfalso; omega)) | refine pIf_t ?_ | refine pN_l hS (by first | rfl | assumption) ?_ | (refine pN_s hS (by first | exact Nat.le_of_ble_eq_true rfl | assumption) (by rfl) ?_; clear hS; intro w hS; try simp only [List.set_cons_zero, List.set_cons_succ] at hS) | refine pN_via (by (intro K; simp (disch := omega) only [go_sem, pN_min, pN_max, w_u32, w_u64, Option.isNone_some, Option.isNone_none]; (try simp only [wrap_u32, wrap_u64]); rfl)) ?_ | fail)
          exact hS.to
      clear hS
      intro _ w hS
      skip
      refine ⟨fun w => ¬ t.one.R ≤ t.one.C ∧ Sat E w (cel d ⟨149, [.slice s.a t.b.length s.c, .int .i64 t.k, .int .u32 t.R, .int .u32 t.one.C]⟩ :: rows cd_uint8 s t.b :: cel x2 ⟨75, [.pointer (some ⟨d, 0, none⟩)]⟩ :: cel x4 ⟨26, [.int .u32 (2 * v + t.bitAt (t.R / 2))]⟩ :: cel x5 ⟨27, [.int .i64 0]⟩ :: M), ?_, ?_⟩
      · repeat' (first | refine pN_ifr ?_ | refine pN_pnr ?_ | (refine pN_eql_s ?_ ?_ <;> intro hc <;> try (exfalso; first | omega | exact hc rfl | exact hc (by assumption) | exact absurd hc (by assumption))) | refine pIf_t ?_ | refine pIf_f ?_ | refine pN_l hS (by first | rfl | assumption) ?_ | refine pN_via (by (intro K; simp (disch := omega) only [go_sem, pN_min, pN_max, w_u32, w_u64, Option.isNone_some, Option.isNone_none]; (try simp only [wrap_u32, wrap_u64]); rfl)) ?_ | fail)
        · have hS : Sat E w (Dec d ⟨t.b, t.k, t.R, t.one.C⟩ :: cel x2 ⟨75, [.pointer (some ⟨d, 0, none⟩)]⟩ :: cel x4 ⟨26, [.int .u32 (2 * v + t.bitAt (t.R / 2))]⟩ :: cel x5 ⟨27, [.int .i64 0]⟩ :: M) := Dec.shut (d := d) (s := s) hS ⟨t.b, t.k, t.R, t.one.C⟩ rfl rfl
          refine ⟨2, rfl, by decide, ?_, 2 * v + t.bitAt (t.R / 2), 0, ⟨t.b, t.k, t.R, t.one.C⟩, htb, hS⟩
          rw [← htd, if_pos (by omega)]
        · exact ⟨by omega, hS.to⟩
      clear hS
      rintro _ w ⟨hnle, hS⟩
      repeat' (first | refine pN_l hS (by first | rfl | assumption) ?_ | (refine pN_s hS (by first | exact Nat.le_of_ble_eq_true rfl | assumption) (by rfl) ?_; clear hS; intro w hS; try simp only [List.set_cons_zero, List.set_cons_succ] at hS) | refine pN_via (by (intro K; simp (disch := omega) only [go_sem, pN_min, pN_max, w_u32, w_u64, Option.isNone_some, Option.isNone_none]; (try simp only [wrap_u32, wrap_u64]); rfl)) ?_ | fail)
      have e3 : (⟨t.b, t.k, t.R / 2, t.one.C⟩ : D.S) = t.one := by rw [e1]; split <;> rfl
      have hS : Sat E w (Dec d ⟨t.b, t.k, t.R / 2, t.one.C⟩ :: cel x2 ⟨75, [.pointer (some ⟨d, 0, none⟩)]⟩ :: cel x4 ⟨26, [.int .u32 (2 * v + t.bitAt (t.R / 2))]⟩ :: cel x5 ⟨27, [.int .i64 0]⟩ :: M) := Dec.shut (d := d) (s := s) hS ⟨t.b, t.k, t.R / 2, t.one.C⟩ rfl rfl
      rw [e3] at hS
      have ob := one.b
      have o0 := one.r0
      have oc := one.c0
      refine pc_rcdec_Decoder_widen (Dwiden_ok hS one.k (by rw [ob, htb]; exact hb) (by omega) oc (by omega) (fun t2 w ht2 hS => ?_) fun w hnone hS => ?_)
      · exact ⟨t2, ht2, hnle, hS⟩
      · refine ⟨1, rfl, by decide, ?_, 2 * v + t.bitAt (t.R / 2), 0, t.one, ob.trans htb, hS⟩
        rw [← htd, if_neg hnle, hnone]
    · obtain rfl : j = m := by omega
      rw [Nat.sub_self, D.S.direct] at htd
      repeat' (first | (refine pN_lss_s ?_ ?_ <;> intro hc <;> try (exfalso; omega)) | refine pIf_f ?_ | refine pN_l hS (by first | rfl | assumption) ?_ | (refine pN_s hS (by first | exact Nat.le_of_ble_eq_true rfl | assumption) (by rfl) ?_; clear hS; intro w hS; try simp only [List.set_cons_zero, List.set_cons_succ] at hS) | fail)
      have hS : Sat E _ (Dec d t :: cel x2 ⟨75, [.pointer (some ⟨d, 0, none⟩)]⟩ :: cel x4 ⟨26, [.int .u32 v]⟩ :: cel x5 ⟨27, [.int .i64 0]⟩ :: M) := hS.to
      refine dE_of call_rcdec_Decoder_Direct_c1 (u2 := .returning) (cap := [.pointer (some ⟨x2, 0, none⟩), .pointer (some ⟨x5, 0, none⟩), .pointer (some ⟨x4, 0, none⟩)]) (args := [.agg #[.int .i64 st.k, .int .u32 st.R, .int .u32 st.C]])
        (Q := fun r w => Sat E w (Dec d t :: cel x2 ⟨75, [.pointer (some ⟨d, 0, none⟩)]⟩ :: cel x4 ⟨26, [.int .u32 v]⟩ :: cel x5 ⟨27, [.int .i64 0]⟩ :: M)) rfl ?_ (rcdec_Decoder_Direct_c1.idles (DirC_idle hS fun w hS => hS))
      clear hS
      rintro _ w hS
      repeat' (first | refine pL_r hS (by rfl) ?_ | fail)
      exact hok t v _ h.1 h.2 htd.symm hS.to

theorem Used_ok (hS : Sat E w (Dec d st :: M)) (hQ : ∀ w, Sat E w (Dec d st :: M) → Q (.int .i64 st.k) w) : Calls Try.prog 51 #[.pointer (some ⟨d, 0, none⟩)] w (retP Q) := by
  refine rcdec_Decoder_Used.calls ?_
  unfold rcdec_Decoder_Used.F
  obtain ⟨s, hS⟩ := Dec.opn hS
  repeat' (first | refine pN_l hS (by first | rfl | assumption) ?_ | refine pN_via (by (intro K; simp (disch := omega) only [go_sem, pN_min, pN_max, w_u32, w_u64, Option.isNone_some, Option.isNone_none]; (try simp only [wrap_u32, wrap_u64]); rfl)) ?_ | fail)
  exact hQ _ (Dec.shut (d := d) (s := s) hS st rfl rfl)

theorem Done_ok (hS : Sat E w (Dec d st :: M)) (hQ : ∀ w, Sat E w (Dec d st :: M) → Q (.bool (decide (st.k = st.b.length ∧ st.C = 0))) w) : Calls Try.prog 53 #[.pointer (some ⟨d, 0, none⟩)] w (retP Q) := by
  refine rcdec_Decoder_Done.calls ?_
  unfold rcdec_Decoder_Done.F
  obtain ⟨s, hS⟩ := Dec.opn hS
  have hQ := fun w h => hQ w (Dec.shut (d := d) (s := s) (L := cel d ⟨149, [.slice s.a st.b.length s.c, .int .i64 st.k, .int .u32 st.R, .int .u32 st.C]⟩ :: rows cd_uint8 s st.b :: M) h st rfl rfl)
  by_cases h1 : st.k = st.b.length
  · by_cases h2 : st.C = 0
    · rw [decide_eq_true ⟨h1, h2⟩] at hQ
      repeat' (first | (refine pA_eql_s ?_ ?_ <;> intro hc <;> try (exfalso; first | omega | exact hc rfl | exact hc (by assumption) | exact absurd hc (by assumption))) | refine gA_go (by rfl) ?_ | refine pL_l hS (by first | rfl | assumption) ?_ | (refine pDr_go hS ?_; clear hS; intro w hS) | refine pA_via (by (intro K; simp (disch := omega) only [go_sem, pN_min, pN_max, w_u32, w_u64, Option.isNone_some, Option.isNone_none]; (try simp only [wrap_u32, wrap_u64]); rfl)) ?_ | fail)
      exact hQ _ hS
    · rw [decide_eq_false (fun h => h2 h.2)] at hQ
      repeat' (first | (refine pA_eql_s ?_ ?_ <;> intro hc <;> try (exfalso; first | omega | exact hc rfl | exact hc (by assumption) | exact absurd hc (by assumption))) | refine gA_go (by rfl) ?_ | refine pL_l hS (by first | rfl | assumption) ?_ | (refine pDr_go hS ?_; clear hS; intro w hS) | refine pA_via (by (intro K; simp (disch := omega) only [go_sem, pN_min, pN_max, w_u32, w_u64, Option.isNone_some, Option.isNone_none]; (try simp only [wrap_u32, wrap_u64]); rfl)) ?_ | fail)
      exact hQ _ hS
  · rw [decide_eq_false (fun h => h1 h.1)] at hQ
    repeat' (first | (refine pA_eql_s ?_ ?_ <;> intro hc <;> try (exfalso; first | omega | exact hc rfl | exact hc (by assumption) | exact absurd hc (by assumption))) | refine gA_no (by rfl) ?_ | refine pL_l hS (by first | rfl | assumption) ?_ | (refine pDr_go hS ?_; clear hS; intro w hS) | refine pA_via (by (intro K; simp (disch := omega) only [go_sem, pN_min, pN_max, w_u32, w_u64, Option.isNone_some, Option.isNone_none]; (try simp only [wrap_u32, wrap_u64]); rfl)) ?_ | fail)
    exact hQ _ hS

theorem pN_bdd [Pan] {K : Value → World → Prop} {a : Option Addr} {n c : Nat} {x y z : Int} (hk : K (.agg #[.slice a n c, .int .i64 x, .int .u32 y, .int .u32 z]) w) : pN Try.prog (oBuild 149 [(0, .slice a n c), (1, .agg #[.int .i64 x, .int .u32 y, .int .u32 z])]) w K := by
  have : (oBuild 149 [(0, .slice a n c), (1, .agg #[.int .i64 x, .int .u32 y, .int .u32 z])]).run Try.prog w = .ok (.value (.agg #[.slice a n c, .int .i64 x, .int .u32 y, .int .u32 z])) w := by kernel_rfl
  rw [pN_def, this, rN_value]; exact hk

theorem DNew_ok {s0 : Sl} {l : List UInt8} (hS : Sat E w M) [hr : Rds cd_uint8 M s0 l] (hb : l.length ≤ 225000000000000)
    (hok : ∀ t d w, D.start l = .ok t () → Sat E w (Dec d t :: M) → Q (.tuple #[.pointer (some ⟨d, 0, none⟩), .int .i64 0]) w)
    (hre : ∀ e w, D.start l = .no e → Sat E w M → Q (.tuple #[.pointer none, .int .i64 e]) w) :
    Calls Try.prog 42 #[.slice s0.a l.length s0.c] w (retP Q) := by
  refine rcdec_New.calls ?_
  unfold rcdec_New.F
  by_cases h5 : l.length < 5
  · repeat' (first | (refine pN_lss_s ?_ ?_ <;> intro hc <;> try (exfalso; omega)) | refine pIf_t ?_ | refine pN_via (by (intro K; simp (disch := omega) only [go_sem, pN_min, pN_max, w_u32, w_u64, Option.isNone_some, Option.isNone_none]; (try simp only [wrap_u32, wrap_u64]); rfl)) ?_ | fail)
    exact hre 1 _ (by rw [D.start, if_pos h5]) hS
  obtain ⟨b0, hb0⟩ : ∃ x, l[0]? = some x := ⟨l[0]'(by omega), by simp⟩
  repeat' (first | (refine pN_appw0 hS rfl (by omega) ?_; clear hS; intro s w hS) | (refine pN_lss_s ?_ ?_ <;> intro hc <;> try (exfalso; omega)) | refine pIf_f ?_ | refine pN_via (by (intro K; simp (disch := omega) only [go_sem, pN_min, pN_max, w_u32, w_u64, Option.isNone_some, Option.isNone_none]; (try simp only [wrap_u32, wrap_u64]); rfl)) ?_ | fail)
  refine pN_bdd ?_
  repeat' (first | (refine pN_bx hS (by rfl) ?_; clear hS; intro a w hS) | fail)
  revert a
  intro bd hS
  refine pN_sl2 hS 1 5 rfl rfl rfl (by omega) (by omega) fun s4 hp => ?_
  have hr4 : ∀ (L : List HA) [Rds cd_uint8 L s0 l], Rds cd_uint8 L s4 ((l.drop 1).take (5 - 1)) := fun L h => hp.rd L h
  have hl4 : ((l.drop 1).take (5 - 1)).length = 4 := by rw [List.length_take, List.length_drop]; omega
  repeat' (first | refine pN_via (by (intro K; simp (disch := omega) only [go_sem, pN_min, pN_max, w_u32, w_u64, Option.isNone_some, Option.isNone_none]; (try simp only [wrap_u32, wrap_u64]); rfl)) ?_ | fail)
  refine ⟨fun v w => ∃ i : Nat, v = .int .i64 i ∧ i ≤ 4 ∧ Sat E w (cel bd ⟨149, [.slice s.a l.length s.c, .int .i64 5, .int .u32 4294967295, .int .u32 (D.front l i)]⟩ :: rows cd_uint8 s l :: M), fun v _ => 4 - (RowKit.intOf v).toNat, ⟨0, rfl, by omega, by rw [D.front_0]; exact hS⟩, ?_⟩
  clear hS
  rintro _ _ w ⟨i, rfl, hi, hS⟩
  by_cases hlt : i < 4
  · obtain ⟨x, hx0⟩ : ∃ x, l[i + 1]? = some x := ⟨l[i + 1]'(by omega), by simp⟩
    have hx : ((l.drop 1).take (5 - 1))[i]? = some x := by rw [List.getElem?_take, if_pos (by omega), List.getElem?_drop, Nat.add_comm]; exact hx0
    have hx2 := x.toNat_lt
    have hfs := D.front_succ l i hx0
    have hf3 := D.front_lt l i (by omega)
    repeat' (first | refine pN_orl 256 8 (by decide) (by omega) (by omega) (by omega) ?_ | (refine pN_lss_s ?_ ?_ <;> intro hc <;> try (exfalso; omega)) | refine pIf_t ?_ | refine pN_ofb ?_ | refine pN_l hS (by first | rfl | assumption) ?_ | refine pN_ld1 ha hS ?_ | (refine pN_s hS (by first | exact Nat.le_of_ble_eq_true rfl | assumption) (by rfl) ?_; clear hS; intro w hS; try simp only [List.set_cons_zero, List.set_cons_succ] at hS) | refine pN_ixk hS _ (by first | rfl | (exact (Int.toNat_of_nonneg (by omega)).symm)) (by first | rfl | omega | simpa only [go_sem] using True.intro | (simp only [go_sem]; omega)) (by assumption) fun a ha hel => ?_ | refine pN_via (by (intro K; simp (disch := omega) only [go_sem, pN_min, pN_max, w_u32, w_u64, Option.isNone_some, Option.isNone_none]; (try simp only [wrap_u32, wrap_u64]); rfl)) ?_ | fail)
    rw [← hfs] at hS
    exact ⟨⟨i + 1, rfl, by omega, hS⟩, by simp [RowKit.intOf] <;> omega⟩
  · obtain rfl : i = 4 := by omega
    have hf4 := D.front_bd l 4 (by omega)
    have h4 : (256 : Int) ^ 4 = 4294967296 := by decide
    have hbe : b0 = 0 ↔ (b0.toNat : Int) = ((0 : UInt8).toNat : Int) := ⟨fun e => by rw [e], fun e => UInt8.toNat_inj.1 (by omega)⟩
    have hst : D.start l = if b0 ≠ 0 ∨ D.front l 4 = 4294967295 then .no 2 else .ok ⟨l, 5, 4294967295, D.front l 4⟩ () := by
      rw [D.start, if_neg h5, hb0]; simp
    repeat' (first | (refine pN_lss_s ?_ ?_ <;> intro hc <;> try (exfalso; omega)) | ((first | refine pA_eql_s ?_ ?_ | refine pA_neq_s ?_ ?_) <;> intro hc <;> try (exfalso; first | omega | exact hc rfl | exact hc (by assumption) | exact absurd hc (by assumption))) | refine pIf_t ?_ | refine pIf_f ?_ | refine gA_go (by rfl) ?_ | refine gA_no (by rfl) ?_ | refine pL_l hS (by first | rfl | assumption) ?_ | refine pL_ld1 ha hS ?_ | (refine pDr_go hS ?_; clear hS; intro w hS) | refine pA_ixk hS _ (by first | rfl | (exact (Int.toNat_of_nonneg (by omega)).symm)) (by first | rfl | omega | simpa only [go_sem] using True.intro | (simp only [go_sem]; omega)) (by assumption) fun a ha hel => ?_ | refine pA_via (by (intro K; simp (disch := omega) only [go_sem, pN_min, pN_max, w_u32, w_u64, Option.isNone_some, Option.isNone_none]; (try simp only [wrap_u32, wrap_u64]); rfl)) ?_ | fail)
    · exact hre 2 _ (by rw [hst, if_pos (.inr hc)]) hS.to
    · have hS := Dec.shut (d := bd) (s := s) hS ⟨l, 5, 4294967295, D.front l 4⟩ rfl rfl
      refine hok ⟨l, 5, 4294967295, D.front l 4⟩ _ _ ?_ hS
      rw [hst, if_neg]
      rintro (h | h)
      · exact h (hbe.2 (by assumption))
      · exact hc h
    · exact hre 2 _ (by rw [hst, if_pos (.inl fun e => hc (hbe.1 e))]) hS.to
end

end Go.Proofs.Ytoejaggkedlfmaa

namespace Go.Proofs.Ytoejaggkedlfmaa
open Go
set_option linter.unusedSimpArgs false
set_option linter.unnecessarySimpa false
set_option linter.unusedSectionVars false
set_option linter.unusedVariables false
set_option maxRecDepth 100000

/-! pithref08_New: pith/pithref08.New; temporaries: 0:b 1:b 4:c 5:i 6:d -/
def pithref08_New.H : Hints := { cut := fun  | _ => none, loop := fun | 5 => ([4, 5], 4193328) | _ => ([], 0), order := fun  | _ => [] }
def pithref08_New.F [Pan] (x0 : Value) (w : World) (Q : Value → World → Prop) : Prop :=
 pN Try.prog (oBi .len #[29] 3 [false] [x0]) w fun x8 w1 =>
 pN Try.prog (oBin .lss 3 (.tmp 8) (.const (.int .i64 5)) x8 (.int .i64 5)) w1 fun x9 w2 =>
 pIf x9
 (Q (.tuple #[(.pointer none), (.int .i64 1)]) w2)
 (∃ (L5 : Value → Value → World → Prop) (m5 : Value → Value → World → Nat),
 L5 (.int .i64 0) (.int .i64 1) w2 ∧
 ∀ (_k5 : Env) (c4l5 : Value) (i5l5 : Value) (w3 : World), L5 c4l5 i5l5 w3 →
 pN Try.prog (oBin .lss 3 (.tmp 10) (.const (.int .i64 5)) i5l5 (.int .i64 5)) w3 fun x11 w4 =>
 pIf x11
 (pN Try.prog (oBin .mul 3 (.const (.int .i64 256)) (.tmp 14) (.int .i64 256) c4l5) w4 fun x15 w5 =>
 pN Try.prog (oIdx 29 x0 i5l5) w5 fun x18 w6 =>
 pN Try.prog (oLoad 5 x18) w6 fun x19 w7 =>
 pN Try.prog (oConv 5 3 x19) w7 fun x20 w8 =>
 pN Try.prog (oBin .add 3 (.tmp 15) (.tmp 20) x15 x20) w8 fun x21 w9 =>
 pN Try.prog (oBin .add 3 (.tmp 12) (.const (.int .i64 1)) i5l5 (.int .i64 1)) w9 fun x13 w10 =>
 (L5 x21 x13 w10 ∧ m5 x21 x13 w10 < m5 c4l5 i5l5 w3))
 (pN Try.prog (oIdx 29 x0 (.int .i64 0)) w4 fun x23 w11 =>
 pN Try.prog (oLoad 5 x23) w11 fun x24 w12 =>
 pN Try.prog (oBin .neq 5 (.tmp 24) (.const (.int .u8 0)) x24 (bv 0)) w12 fun x25 w13 =>
 pGd (gB x25 false) (pN Try.prog (oMv c4l5) w13) w13 fun x27 w14 =>
 pGd (gB x25 false) (pN Try.prog (oBin .eql 3 (.tmp 27) (.const (.int .i64 4294967295)) x27 (.int .i64 4294967295)) w14) w14 fun x28 w15 =>
 pN Try.prog (oPick x25 (.bool true) x28) w15 fun x29 w16 =>
 pIf x29
 (Q (.tuple #[(.pointer none), (.int .i64 2)]) w16)
 (pN Try.prog (oBuild 151 [(1, (.int .i64 5)), (2, (.int .i64 4294967295)), (3, c4l5)]) w16 fun x31 w17 =>
 pN Try.prog (oBox 151 x31) w17 fun x32 w18 =>
 pN Try.prog (oNil x32) w18 fun x35 w19 =>
 pN Try.prog (oFld 151 x35 0) w19 fun x36 w20 =>
 pN Try.prog (oLoad 29 x36) w20 fun x37 w21 =>
 pN Try.prog (oBi .append #[29, 29] 29 [false, false] [x37, x0]) w21 fun x39 w22 =>
 pN Try.prog (oNil x32) w22 fun x40 w23 =>
 pN Try.prog (oFld 151 x40 0) w23 fun x41 w24 =>
 pN Try.prog (oStore 29 x41 x39) w24 fun _ w25 =>
 Q (.tuple #[x32, (.int .i64 0)]) w25)))
noncomputable def pithref08_New.c : Code := match Try.f43.body with | some c => c | none => .skip
theorem pithref08_New.eq [Pan] (x0 : Value) (w : World) (Q : Value → World → Prop) : cw Try.prog pithref08_New.H pithref08_New.c (endQ Try.prog Try.f43.results.toList Q) (argsE [x0]) w = pithref08_New.F x0 w Q := by kernel_rfl
theorem pithref08_New.calls [Pan] {x0 : Value} {w : World} {Q : Value → World → Prop} (h : pithref08_New.F x0 w Q) : Calls Try.prog 43 #[x0] w (retP Q) :=
  calls_of_cw (H := pithref08_New.H) (c := pithref08_New.c) (args := [x0]) mixed Try.func43 (by kernel_rfl) (by kernel_rfl) (Nat.le_of_ble_eq_true (by kernel_rfl)) ((pithref08_New.eq x0 w Q).mpr h)

/-! pithref08_Decoder_Direct: (*pith/pithref08.Decoder).Direct; temporaries: 0:d 1:n 2:d 3:n 6:f 7:v 8:i 9:ok -/
def pithref08_Decoder_Direct.H : Hints := { cut := fun | 7 => some ([7], 590295810358697263792) | 13 => some ([7], 72057585447993472) | _ => none, loop := fun | 6 => ([7, 8], 590295810358705390512) | _ => ([], 0), order := fun | 10 => [(0, 0), (1, 1), (2, 3), (3, 7), (4, 15), (5, 31), (6, 63), (7, 127), (8, 255)] | 11 => [(0, 0), (1, 1), (2, 3), (3, 7), (4, 15), (5, 31), (6, 63), (7, 127), (8, 255), (9, 511), (10, 1023), (11, 2047), (12, 4095)] | 13 => [(0, 0), (1, 1), (2, 3), (3, 7), (4, 15), (5, 31), (6, 63), (7, 127), (8, 255)] | _ => [] }
def pithref08_Decoder_Direct.F [Pan] (x0 : Value) (x1 : Value) (w : World) (Q : Value → World → Prop) : Prop :=
 pN Try.prog (oBin .lss 3 (.tmp 10) (.const (.int .i64 0)) x1 (.int .i64 0)) w fun x11 w1 =>
 pGd (gB x11 false) (pN Try.prog (oMv x1) w1) w1 fun x13 w2 =>
 pGd (gB x11 false) (pN Try.prog (oBin .gtr 3 (.tmp 13) (.const (.int .i64 32)) x13 (.int .i64 32)) w2) w2 fun x14 w3 =>
 pN Try.prog (oPick x11 (.bool true) x14) w3 fun x15 w4 =>
 pIf x15
 (Q (.tuple #[(.int .u32 0), (.int .i64 7)]) w4)
 (pN Try.prog (oCall 92 [x0]) w4 fun x17 w5 =>
 ∃ (L6 : Value → Value → World → Prop) (m6 : Value → Value → World → Nat),
 L6 (.int .i64 0) (.int .i64 0) w5 ∧
 ∀ (_k6 : Env) (v7l6 : Value) (i8l6 : Value) (w6 : World), L6 v7l6 i8l6 w6 →
 pN Try.prog (oBin .lss 3 (.tmp 18) (.tmp 19) i8l6 x1) w6 fun x20 w7 =>
 pIf x20
 (∃ I7 : Value → World → Prop,
 (pN Try.prog (oNil x17) w7 fun x25 w8 =>
 pN Try.prog (oFld 151 x25 2) w8 fun x26 w9 =>
 pN Try.prog (oLoad 3 x26) w9 fun x27 w10 =>
 pN Try.prog (oBin .quo 3 (.tmp 27) (.const (.int .i64 2)) x27 (.int .i64 2)) w10 fun x28 w11 =>
 pN Try.prog (oNil x17) w11 fun x29 w12 =>
 pN Try.prog (oFld 151 x29 2) w12 fun x30 w13 =>
 pN Try.prog (oStore 3 x30 x28) w13 fun _ w14 =>
 pN Try.prog (oBin .mul 3 (.const (.int .i64 2)) (.tmp 31) (.int .i64 2) v7l6) w14 fun x32 w15 =>
 ∃ I13 : Value → World → Prop,
 (pDr w15 fun w16 =>
 pA Try.prog (oNil x17) fun x34 =>
 pA Try.prog (oFld 151 x34 3) fun x35 =>
 pL Try.prog (oLoad 3 x35) w16 fun x36 =>
 pA Try.prog (oNil x17) fun x38 =>
 pA Try.prog (oFld 151 x38 2) fun x39 =>
 pL Try.prog (oLoad 3 x39) w16 fun x40 =>
 pA Try.prog (oBin .geq 3 (.tmp 36) (.tmp 40) x36 x40) fun x41 =>
 pIf x41
 (pDr w16 fun w17 =>
 pA Try.prog (oNil x17) fun x44 =>
 pA Try.prog (oFld 151 x44 3) fun x45 =>
 pL Try.prog (oLoad 3 x45) w17 fun x46 =>
 pA Try.prog (oNil x17) fun x48 =>
 pA Try.prog (oFld 151 x48 2) fun x49 =>
 pL Try.prog (oLoad 3 x49) w17 fun x50 =>
 pA Try.prog (oBin .sub 3 (.tmp 46) (.tmp 50) x46 x50) fun x51 =>
 pA Try.prog (oNil x17) fun x52 =>
 pA Try.prog (oFld 151 x52 3) fun x53 =>
 pN Try.prog (oStore 3 x53 x51) w17 fun _ w18 =>
 (True) ∧ (pN Try.prog (oBin .add 3 (.tmp 54) (.const (.int .i64 1)) x32 (.int .i64 1)) w18 fun x55 w19 =>
 I13 x55 w19))
 (I13 x32 w16)) ∧
 ∀ (_j13 : Env) (v7c13 : Value) (w20 : World), I13 v7c13 w20 →
 pDr w20 fun w21 =>
 pA Try.prog (oNil x17) fun x57 =>
 pA Try.prog (oFld 151 x57 3) fun x58 =>
 pL Try.prog (oLoad 3 x58) w21 fun x59 =>
 pA Try.prog (oNil x17) fun x61 =>
 pA Try.prog (oFld 151 x61 2) fun x62 =>
 pL Try.prog (oLoad 3 x62) w21 fun x63 =>
 pA Try.prog (oBin .geq 3 (.tmp 59) (.tmp 63) x59 x63) fun x64 =>
 pIf x64
 (Q (.tuple #[(.int .u32 0), (.int .i64 2)]) w21)
 (pN Try.prog (oCall 93 [x17]) w21 fun x66 w22 =>
 pN Try.prog (oUn .not x66) w22 fun x68 w23 =>
 pIf x68
 (Q (.tuple #[(.int .u32 0), (.int .i64 1)]) w23)
 (I7 v7c13 w23))) ∧
 ∀ (_j7 : Env) (v7c7 : Value) (w24 : World), I7 v7c7 w24 →
 pN Try.prog (oBin .add 3 (.tmp 21) (.const (.int .i64 1)) i8l6 (.int .i64 1)) w24 fun x22 w25 =>
 (L6 v7c7 x22 w25 ∧ m6 v7c7 x22 w25 < m6 v7l6 i8l6 w6))
 (pN Try.prog (oNil x17) w7 fun x71 w26 =>
 pN Try.prog (oLoad 151 x71) w26 fun x72 w27 =>
 pN Try.prog (oNil x0) w27 fun x73 w28 =>
 pN Try.prog (oStore 151 x73 x72) w28 fun _ w29 =>
 pN Try.prog (oConv 3 26 v7l6) w29 fun x75 w30 =>
 Q (.tuple #[x75, (.int .i64 0)]) w30))
noncomputable def pithref08_Decoder_Direct.c : Code := match Try.f48.body with | some c => c | none => .skip
theorem pithref08_Decoder_Direct.eq [Pan] (x0 : Value) (x1 : Value) (w : World) (Q : Value → World → Prop) : cw Try.prog pithref08_Decoder_Direct.H pithref08_Decoder_Direct.c (endQ Try.prog Try.f48.results.toList Q) (argsE [x0, x1]) w = pithref08_Decoder_Direct.F x0 x1 w Q := by kernel_rfl
theorem pithref08_Decoder_Direct.calls [Pan] {x0 : Value} {x1 : Value} {w : World} {Q : Value → World → Prop} (h : pithref08_Decoder_Direct.F x0 x1 w Q) : Calls Try.prog 48 #[x0, x1] w (retP Q) :=
  calls_of_cw (H := pithref08_Decoder_Direct.H) (c := pithref08_Decoder_Direct.c) (args := [x0, x1]) mixed Try.func48 (by kernel_rfl) (by kernel_rfl) (Nat.le_of_ble_eq_true (by kernel_rfl)) ((pithref08_Decoder_Direct.eq x0 x1 w Q).mpr h)

/-! pithref08_Decoder_Bit: (*pith/pithref08.Decoder).Bit; temporaries: 0:d 1:s 2:i 3:d 4:s 5:i 8:p 9:e 10:cut 11:f 12:bit 13:ok -/
def pithref08_Decoder_Bit.H : Hints := { cut := fun | 12 => some ([12], 1152921500311883776) | _ => none, loop := fun  | _ => ([], 0), order := fun  | _ => [] }
def pithref08_Decoder_Bit.F [Pan] (x0 : Value) (x1 : Value) (x2 : Value) (w : World) (Q : Value → World → Prop) : Prop :=
 pN Try.prog (oCall 79 [x1, x2]) w fun x17 w1 =>
 pN Try.prog (oExt x17 0) w1 fun x18 w2 =>
 pN Try.prog (oExt x17 1) w2 fun x19 w3 =>
 pN Try.prog (oBin .neq 3 (.tmp 20) (.const (.int .i64 0)) x19 (.int .i64 0)) w3 fun x21 w4 =>
 pIf x21
 (Q (.tuple #[(.int .i64 0), (.int .i64 7)]) w4)
 (pN Try.prog (oNil x0) w4 fun x23 w5 =>
 pN Try.prog (oFld 151 x23 2) w5 fun x24 w6 =>
 pN Try.prog (oLoad 3 x24) w6 fun x25 w7 =>
 pN Try.prog (oConv 3 26 x25) w7 fun x26 w8 =>
 pN Try.prog (oCall 81 [x26, x18]) w8 fun x28 w9 =>
 pN Try.prog (oConv 26 3 x28) w9 fun x29 w10 =>
 pN Try.prog (oCall 92 [x0]) w10 fun x31 w11 =>
 ∃ I12 : Value → World → Prop,
 (pN Try.prog (oNil x31) w11 fun x33 w12 =>
 pN Try.prog (oFld 151 x33 3) w12 fun x34 w13 =>
 pN Try.prog (oLoad 3 x34) w13 fun x35 w14 =>
 pN Try.prog (oBin .lss 3 (.tmp 35) (.tmp 36) x35 x29) w14 fun x37 w15 =>
 pIf x37
 (pN Try.prog (oNil x31) w15 fun x40 w16 =>
 pN Try.prog (oFld 151 x40 2) w16 fun x41 w17 =>
 pN Try.prog (oStore 3 x41 x29) w17 fun _ w18 =>
 I12 (.int .i64 0) w18)
 (pN Try.prog (oNil x31) w15 fun x44 w19 =>
 pN Try.prog (oFld 151 x44 3) w19 fun x45 w20 =>
 pN Try.prog (oLoad 3 x45) w20 fun x46 w21 =>
 pN Try.prog (oBin .sub 3 (.tmp 46) (.tmp 47) x46 x29) w21 fun x48 w22 =>
 pN Try.prog (oNil x31) w22 fun x49 w23 =>
 pN Try.prog (oFld 151 x49 3) w23 fun x50 w24 =>
 pN Try.prog (oStore 3 x50 x48) w24 fun _ w25 =>
 pN Try.prog (oNil x31) w25 fun x53 w26 =>
 pN Try.prog (oFld 151 x53 2) w26 fun x54 w27 =>
 pN Try.prog (oLoad 3 x54) w27 fun x55 w28 =>
 pN Try.prog (oBin .sub 3 (.tmp 55) (.tmp 56) x55 x29) w28 fun x57 w29 =>
 pN Try.prog (oNil x31) w29 fun x58 w30 =>
 pN Try.prog (oFld 151 x58 2) w30 fun x59 w31 =>
 pN Try.prog (oStore 3 x59 x57) w31 fun _ w32 =>
 I12 (.int .i64 1) w32)) ∧
 ∀ (_j12 : Env) (bit12c12 : Value) (w33 : World), I12 bit12c12 w33 →
 pN Try.prog (oCall 93 [x31]) w33 fun x61 w34 =>
 pN Try.prog (oUn .not x61) w34 fun x63 w35 =>
 pIf x63
 (Q (.tuple #[(.int .i64 0), (.int .i64 1)]) w35)
 (pN Try.prog (oNil x31) w35 fun x66 w36 =>
 pN Try.prog (oLoad 151 x66) w36 fun x67 w37 =>
 pN Try.prog (oNil x0) w37 fun x68 w38 =>
 pN Try.prog (oStore 151 x68 x67) w38 fun _ w39 =>
 pN Try.prog (oCall 82 [x1, x2, bit12c12]) w39 fun _ w40 =>
 Q (.tuple #[bit12c12, (.int .i64 0)]) w40))
noncomputable def pithref08_Decoder_Bit.c : Code := match Try.f50.body with | some c => c | none => .skip
theorem pithref08_Decoder_Bit.eq [Pan] (x0 : Value) (x1 : Value) (x2 : Value) (w : World) (Q : Value → World → Prop) : cw Try.prog pithref08_Decoder_Bit.H pithref08_Decoder_Bit.c (endQ Try.prog Try.f50.results.toList Q) (argsE [x0, x1, x2]) w = pithref08_Decoder_Bit.F x0 x1 x2 w Q := by kernel_rfl
theorem pithref08_Decoder_Bit.calls [Pan] {x0 : Value} {x1 : Value} {x2 : Value} {w : World} {Q : Value → World → Prop} (h : pithref08_Decoder_Bit.F x0 x1 x2 w Q) : Calls Try.prog 50 #[x0, x1, x2] w (retP Q) :=
  calls_of_cw (H := pithref08_Decoder_Bit.H) (c := pithref08_Decoder_Bit.c) (args := [x0, x1, x2]) mixed Try.func50 (by kernel_rfl) (by kernel_rfl) (Nat.le_of_ble_eq_true (by kernel_rfl)) ((pithref08_Decoder_Bit.eq x0 x1 x2 w Q).mpr h)

/-! pithref08_Decoder_Used: (*pith/pithref08.Decoder).Used; temporaries: 0:d 1:d -/
def pithref08_Decoder_Used.H : Hints := { cut := fun  | _ => none, loop := fun  | _ => ([], 0), order := fun  | _ => [] }
def pithref08_Decoder_Used.F [Pan] (x0 : Value) (w : World) (Q : Value → World → Prop) : Prop :=
 pN Try.prog (oNil x0) w fun x4 w1 =>
 pN Try.prog (oFld 151 x4 1) w1 fun x5 w2 =>
 pN Try.prog (oLoad 3 x5) w2 fun x6 w3 =>
 Q x6 w3
noncomputable def pithref08_Decoder_Used.c : Code := match Try.f52.body with | some c => c | none => .skip
theorem pithref08_Decoder_Used.eq [Pan] (x0 : Value) (w : World) (Q : Value → World → Prop) : cw Try.prog pithref08_Decoder_Used.H pithref08_Decoder_Used.c (endQ Try.prog Try.f52.results.toList Q) (argsE [x0]) w = pithref08_Decoder_Used.F x0 w Q := by kernel_rfl
theorem pithref08_Decoder_Used.calls [Pan] {x0 : Value} {w : World} {Q : Value → World → Prop} (h : pithref08_Decoder_Used.F x0 w Q) : Calls Try.prog 52 #[x0] w (retP Q) :=
  calls_of_cw (H := pithref08_Decoder_Used.H) (c := pithref08_Decoder_Used.c) (args := [x0]) mixed Try.func52 (by kernel_rfl) (by kernel_rfl) (Nat.le_of_ble_eq_true (by kernel_rfl)) ((pithref08_Decoder_Used.eq x0 w Q).mpr h)

/-! pithref08_Decoder_Done: (*pith/pithref08.Decoder).Done; temporaries: 0:d 1:d -/
def pithref08_Decoder_Done.H : Hints := { cut := fun  | _ => none, loop := fun  | _ => ([], 0), order := fun | 1 => [(0, 0), (1, 1), (2, 3), (3, 7), (4, 15), (5, 31), (6, 63), (7, 127), (8, 255), (9, 511), (10, 1023), (11, 2047), (12, 4095), (13, 8191), (14, 16383), (15, 32767), (16, 65535), (17, 131071)] | _ => [] }
def pithref08_Decoder_Done.F [Pan] (x0 : Value) (w : World) (Q : Value → World → Prop) : Prop :=
 pDr w fun w1 =>
 pA Try.prog (oNil x0) fun x4 =>
 pA Try.prog (oFld 151 x4 1) fun x5 =>
 pL Try.prog (oLoad 3 x5) w1 fun x6 =>
 pA Try.prog (oNil x0) fun x8 =>
 pA Try.prog (oFld 151 x8 0) fun x9 =>
 pL Try.prog (oLoad 29 x9) w1 fun x10 =>
 pA Try.prog (oBi .len #[29] 3 [false] [x10]) fun x11 =>
 pA Try.prog (oBin .eql 3 (.tmp 6) (.tmp 11) x6 x11) fun x12 =>
 gA (gB x12 true) (pA Try.prog (oMv x0)) fun x14 =>
 gA (gB x12 true) (pA Try.prog (oNil x14)) fun x15 =>
 gA (gB x12 true) (pA Try.prog (oFld 151 x15 3)) fun x16 =>
 gA (gB x12 true) (pL Try.prog (oLoad 3 x16) w1) fun x17 =>
 gA (gB x12 true) (pA Try.prog (oBin .eql 3 (.tmp 17) (.const (.int .i64 0)) x17 (.int .i64 0))) fun x18 =>
 pA Try.prog (oPick x12 x18 (.bool false)) fun x19 =>
 Q x19 w1
noncomputable def pithref08_Decoder_Done.c : Code := match Try.f54.body with | some c => c | none => .skip
theorem pithref08_Decoder_Done.eq [Pan] (x0 : Value) (w : World) (Q : Value → World → Prop) : cw Try.prog pithref08_Decoder_Done.H pithref08_Decoder_Done.c (endQ Try.prog Try.f54.results.toList Q) (argsE [x0]) w = pithref08_Decoder_Done.F x0 w Q := by kernel_rfl
theorem pithref08_Decoder_Done.calls [Pan] {x0 : Value} {w : World} {Q : Value → World → Prop} (h : pithref08_Decoder_Done.F x0 w Q) : Calls Try.prog 54 #[x0] w (retP Q) :=
  calls_of_cw (H := pithref08_Decoder_Done.H) (c := pithref08_Decoder_Done.c) (args := [x0]) mixed Try.func54 (by kernel_rfl) (by kernel_rfl) (Nat.le_of_ble_eq_true (by kernel_rfl)) ((pithref08_Decoder_Done.eq x0 w Q).mpr h)

/-! pithref08_Decoder_Fork: (*pith/pithref08.Decoder).Fork; temporaries: 0:d 1:d 3:f -/
def pithref08_Decoder_Fork.H : Hints := { cut := fun  | _ => none, loop := fun  | _ => ([], 0), order := fun  | _ => [] }
def pithref08_Decoder_Fork.F [Pan] (x0 : Value) (w : World) (Q : Value → World → Prop) : Prop :=
 pN Try.prog (oNil x0) w fun x5 w1 =>
 pN Try.prog (oLoad 151 x5) w1 fun x6 w2 =>
 pN Try.prog (oAlloc 151) w2 fun x3 w3 =>
 pN Try.prog (oStore 151 x3 x6) w3 fun _ w4 =>
 Q x3 w4
noncomputable def pithref08_Decoder_Fork.c : Code := match Try.f92.body with | some c => c | none => .skip
theorem pithref08_Decoder_Fork.eq [Pan] (x0 : Value) (w : World) (Q : Value → World → Prop) : cw Try.prog pithref08_Decoder_Fork.H pithref08_Decoder_Fork.c (endQ Try.prog Try.f92.results.toList Q) (argsE [x0]) w = pithref08_Decoder_Fork.F x0 w Q := by kernel_rfl
theorem pithref08_Decoder_Fork.calls [Pan] {x0 : Value} {w : World} {Q : Value → World → Prop} (h : pithref08_Decoder_Fork.F x0 w Q) : Calls Try.prog 92 #[x0] w (retP Q) :=
  calls_of_cw (H := pithref08_Decoder_Fork.H) (c := pithref08_Decoder_Fork.c) (args := [x0]) mixed Try.func92 (by kernel_rfl) (by kernel_rfl) (Nat.le_of_ble_eq_true (by kernel_rfl)) ((pithref08_Decoder_Fork.eq x0 w Q).mpr h)

/-! pithref08_Decoder_widen: (*pith/pithref08.Decoder).widen; temporaries: 0:d 1:d -/
def pithref08_Decoder_widen.H : Hints := { cut := fun  | _ => none, loop := fun  | _ => ([], 0), order := fun | 3 => [(0, 0), (1, 1), (2, 3), (3, 7), (4, 15), (5, 31), (6, 63), (7, 127), (8, 255), (9, 511)] | 6 => [(0, 0), (1, 1), (2, 3), (3, 7), (4, 15), (5, 31), (6, 63), (7, 127), (8, 255), (9, 511), (10, 1023), (11, 2047), (12, 4095), (13, 8191), (14, 16383), (15, 32767), (16, 65535), (17, 131071), (18, 262143), (19, 524287), (20, 1048575)] | _ => [] }
def pithref08_Decoder_widen.F [Pan] (x0 : Value) (w : World) (Q : Value → World → Prop) : Prop :=
 pN Try.prog (oNil x0) w fun x4 w1 =>
 pN Try.prog (oFld 151 x4 2) w1 fun x5 w2 =>
 pN Try.prog (oLoad 3 x5) w2 fun x6 w3 =>
 pN Try.prog (oBin .geq 3 (.tmp 6) (.const (.int .i64 16777216)) x6 (.int .i64 16777216)) w3 fun x7 w4 =>
 pIf x7
 (Q (.bool true) w4)
 (pDr w4 fun w5 =>
 pA Try.prog (oNil x0) fun x9 =>
 pA Try.prog (oFld 151 x9 1) fun x10 =>
 pL Try.prog (oLoad 3 x10) w5 fun x11 =>
 pA Try.prog (oNil x0) fun x13 =>
 pA Try.prog (oFld 151 x13 0) fun x14 =>
 pL Try.prog (oLoad 29 x14) w5 fun x15 =>
 pA Try.prog (oBi .len #[29] 3 [false] [x15]) fun x16 =>
 pA Try.prog (oBin .eql 3 (.tmp 11) (.tmp 16) x11 x16) fun x17 =>
 pIf x17
 (Q (.bool false) w5)
 (pN Try.prog (oNil x0) w5 fun x20 w6 =>
 pN Try.prog (oFld 151 x20 2) w6 fun x21 w7 =>
 pN Try.prog (oLoad 3 x21) w7 fun x22 w8 =>
 pN Try.prog (oBin .mul 3 (.const (.int .i64 256)) (.tmp 22) (.int .i64 256) x22) w8 fun x23 w9 =>
 pN Try.prog (oNil x0) w9 fun x24 w10 =>
 pN Try.prog (oFld 151 x24 2) w10 fun x25 w11 =>
 pN Try.prog (oStore 3 x25 x23) w11 fun _ w12 =>
 pDr w12 fun w13 =>
 pA Try.prog (oNil x0) fun x28 =>
 pA Try.prog (oFld 151 x28 3) fun x29 =>
 pL Try.prog (oLoad 3 x29) w13 fun x30 =>
 pA Try.prog (oBin .mul 3 (.const (.int .i64 256)) (.tmp 30) (.int .i64 256) x30) fun x31 =>
 pA Try.prog (oNil x0) fun x33 =>
 pA Try.prog (oFld 151 x33 0) fun x34 =>
 pL Try.prog (oLoad 29 x34) w13 fun x35 =>
 pA Try.prog (oNil x0) fun x37 =>
 pA Try.prog (oFld 151 x37 1) fun x38 =>
 pL Try.prog (oLoad 3 x38) w13 fun x39 =>
 pA Try.prog (oIdx 29 x35 x39) fun x40 =>
 pL Try.prog (oLoad 5 x40) w13 fun x41 =>
 pL Try.prog (oConv 5 3 x41) w13 fun x42 =>
 pA Try.prog (oBin .add 3 (.tmp 31) (.tmp 42) x31 x42) fun x43 =>
 pA Try.prog (oNil x0) fun x44 =>
 pA Try.prog (oFld 151 x44 3) fun x45 =>
 pN Try.prog (oStore 3 x45 x43) w13 fun _ w14 =>
 (True) ∧ (pN Try.prog (oNil x0) w14 fun x47 w15 =>
 pN Try.prog (oFld 151 x47 1) w15 fun x48 w16 =>
 pN Try.prog (oLoad 3 x48) w16 fun x49 w17 =>
 pN Try.prog (oBin .add 3 (.tmp 49) (.const (.int .i64 1)) x49 (.int .i64 1)) w17 fun x50 w18 =>
 pN Try.prog (oNil x0) w18 fun x51 w19 =>
 pN Try.prog (oFld 151 x51 1) w19 fun x52 w20 =>
 pN Try.prog (oStore 3 x52 x50) w20 fun _ w21 =>
 Q (.bool true) w21)))
noncomputable def pithref08_Decoder_widen.c : Code := match Try.f93.body with | some c => c | none => .skip
theorem pithref08_Decoder_widen.eq [Pan] (x0 : Value) (w : World) (Q : Value → World → Prop) : cw Try.prog pithref08_Decoder_widen.H pithref08_Decoder_widen.c (endQ Try.prog Try.f93.results.toList Q) (argsE [x0]) w = pithref08_Decoder_widen.F x0 w Q := by kernel_rfl
theorem pithref08_Decoder_widen.calls [Pan] {x0 : Value} {w : World} {Q : Value → World → Prop} (h : pithref08_Decoder_widen.F x0 w Q) : Calls Try.prog 93 #[x0] w (retP Q) :=
  calls_of_cw (H := pithref08_Decoder_widen.H) (c := pithref08_Decoder_widen.c) (args := [x0]) mixed Try.func93 (by kernel_rfl) (by kernel_rfl) (Nat.le_of_ble_eq_true (by kernel_rfl)) ((pithref08_Decoder_widen.eq x0 w Q).mpr h)

end Go.Proofs.Ytoejaggkedlfmaa
