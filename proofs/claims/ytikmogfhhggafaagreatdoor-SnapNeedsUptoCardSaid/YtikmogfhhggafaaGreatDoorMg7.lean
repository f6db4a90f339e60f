/-
  Texts of one proof, one behind the other: LfPithlaw36, LwA, LwB, SnI, LwE, LwF, SnD, SnB, LwC, LwD, SnE, Srt, Lay190, SrtN, DepN, ShaK, LwG, Twr, SnF.
-/
import Derived.Test.YtikmogfhhggafaaGreatDoorRows
import Derived.Sort.Grow
import Derived.Shelf.GgSortFunc.RowK
import Derived.Shelf.Sort.Plain
import Derived.Shelf.Slices.In.SortNone
import Derived.Test.YtikmogfhhggafaaGreatDoorMg6
set_option linter.unusedSimpArgs false
set_option linter.unnecessarySimpa false
set_option linter.unusedSectionVars false
set_option linter.unusedVariables false

namespace Go.Proofs.YtikmogfhhggafaaGreatDoor
open Go
set_option maxRecDepth 100000

def pithlaw36_SnapNeeds.H : Hints := { cut := fun  | _ => none, loop := fun | 12 => ([76], 40564819131745477121980179165248) | 19 => ([108], 42534971346563649506195042772950483008) | _ => ([], 0), order := fun | 15 => [(0, 0), (1, 1), (2, 3), (3, 7), (4, 15), (5, 31), (6, 63), (7, 127), (8, 255), (9, 511), (10, 1023), (11, 2047), (12, 4095), (13, 8191), (14, 16383), (15, 32767), (16, 65535), (17, 131071), (18, 262143)] | _ => [] }
def pithlaw36_SnapNeeds.F [Pan] (x0 x1 x2 : Value) (w : World) (Q : Value → World → Prop) : Prop :=
 pN Tryz.prog (oBox 29 x0) w fun x3 w1 =>
 pN Tryz.prog (oLoad 29 x3) w1 fun x22 w2 =>
 pN Tryz.prog (oCall 8 [x22]) w2 fun x23 w3 =>
 pN Tryz.prog (oExt x23 0) w3 fun x24 w4 =>
 pN Tryz.prog (oExt x23 1) w4 fun x25 w5 =>
 pN Tryz.prog (oBin .eql 31 (.tmp 26) (.const (.pointer none)) x24 (.pointer none)) w5 fun x27 w6 =>
 pGd (gB x27 false) (pN Tryz.prog (oMv x25) w6) w6 fun x29 w7 =>
 pGd (gB x27 false) (pN Tryz.prog (oUn .not x29) w7) w7 fun x30 w8 =>
 pN Tryz.prog (oPick x27 (.bool true) x30) w8 fun x31 w9 =>
 pGd (gB x31 false) (pN Tryz.prog (oMv x1) w9) w9 fun x33 w10 =>
 pGd (gB x31 false) (pN Tryz.prog (oCall 9 [x33]) w10) w10 fun x34 w11 =>
 pGd (gB x31 false) (pN Tryz.prog (oBin .neq 3 (.tmp 34) (.const (.int .i64 0)) x34 (.int .i64 0)) w11) w11 fun x35 w12 =>
 pN Tryz.prog (oPick x31 (.bool true) x35) w12 fun x36 w13 =>
 pGd (gB x36 false) (pN Tryz.prog (oMv x2) w13) w13 fun x38 w14 =>
 pGd (gB x36 false) (pN Tryz.prog (oBin .lss 3 (.tmp 38) (.const (.int .i64 0)) x38 (.int .i64 0)) w14) w14 fun x39 w15 =>
 pN Tryz.prog (oPick x36 (.bool true) x39) w15 fun x40 w16 =>
 pGd (gB x40 false) (pN Tryz.prog (oLoad 29 x3) w16) w16 fun x42 w17 =>
 pGd (gB x40 false) (pN Tryz.prog (oMv x1) w17) w17 fun x43 w18 =>
 pGd (gB x40 false) (pN Tryz.prog (oBs 104 1 [(0, x43)]) w18) w18 fun x44 w19 =>
 pGd (gB x40 false) (pN Tryz.prog (oCall 10 [x42, x44]) w19) w19 fun x45 w20 =>
 pN Tryz.prog (oPick x40 (.bool true) x45) w20 fun x46 w21 =>
 pIf x46
 (pGd (gB x25 true) (pN Tryz.prog (oCall 11 []) w21) w21 fun x49 w22 =>
 pN Tryz.prog (oPick x25 x49 (.bool false)) w22 fun x50 w23 =>
 Q x50 w23)
 (pN Tryz.prog (oBs 47 34 [(0, (bv 115)), (1, (bv 111)), (2, (bv 109)), (3, (bv 101)), (4, (bv 116)), (5, (bv 104)), (6, (bv 105)), (7, (bv 110)), (8, (bv 103)), (9, (bv 32)), (10, (bv 101)), (11, (bv 108)), (12, (bv 115)), (13, (bv 101)), (14, (bv 44)), (15, (bv 32)), (16, (bv 119)), (17, (bv 104)), (18, (bv 105)), (19, (bv 99)), (20, (bv 104)), (21, (bv 32)), (22, (bv 110)), (23, (bv 111)), (24, (bv 98)), (25, (bv 111)), (26, (bv 100)), (27, (bv 121)), (28, (bv 32)), (29, (bv 110)), (30, (bv 101)), (31, (bv 101)), (32, (bv 100)), (33, (bv 115))]) w21 fun x52 w24 =>
 pN Tryz.prog (oConv 47 47 x52) w24 fun x53 w25 =>
 pN Tryz.prog (oCall 16 [x24, x53]) w25 fun _ w26 =>
 pN Tryz.prog (oCall 13 [x24, (.string ⟨#[108]⟩), x1]) w26 fun x57 w27 =>
 pN Tryz.prog (oCall 12 [x57]) w27 fun x58 w28 =>
 pN Tryz.prog (oBin .neq 3 (.tmp 58) (.const (.int .i64 0)) x58 (.int .i64 0)) w28 fun x59 w29 =>
 pIf x59
 (Q (.bool false) w29)
 (pN Tryz.prog (oCall 17 [x24, (.string ⟨#[108]⟩)]) w29 fun x62 w30 =>
 pN Tryz.prog (oExt x62 0) w30 fun x63 w31 =>
 pN Tryz.prog (oExt x62 1) w31 fun x64 w32 =>
 pN Tryz.prog (oCall 12 [x64]) w32 fun x66 w33 =>
 pN Tryz.prog (oBin .neq 3 (.tmp 66) (.const (.int .i64 0)) x66 (.int .i64 0)) w33 fun x67 w34 =>
 pGd (gB x67 false) (pN Tryz.prog (oMv x63) w34) w34 fun x69 w35 =>
 pGd (gB x67 false) (pN Tryz.prog (oBi .len #[52] 3 [false] [x69]) w35) w35 fun x70 w36 =>
 pGd (gB x67 false) (pN Tryz.prog (oBin .eql 3 (.tmp 70) (.const (.int .i64 0)) x70 (.int .i64 0)) w36) w36 fun x71 w37 =>
 pN Tryz.prog (oPick x67 (.bool true) x71) w37 fun x72 w38 =>
 pIf x72
 (Q (.bool false) w38)
 (pN Tryz.prog (oMap 56 none) w38 fun x73 w39 =>
 pN Tryz.prog (oBi .len #[52] 3 [false] [x63]) w39 fun x75 w40 =>
 ∃ (L12 : Value → World → Prop) (m12 : Value → World → Nat),
 L12 (.int .i64 0) w40 ∧
 ∀ (_k12 : Env) (v76l12 : Value) (w41 : World), L12 v76l12 w41 →
 pN Tryz.prog (oBin .lss 3 (.tmp 76) (.tmp 75) v76l12 x75) w41 fun x77 w42 =>
 pIf x77
 (pN Tryz.prog (oIdx 52 x63 v76l12) w42 fun x79 w43 =>
 pN Tryz.prog (oLoad 58 x79) w43 fun x80 w44 =>
 pN Tryz.prog (oAlloc 58) w44 fun x13 w45 =>
 pN Tryz.prog (oStore 58 x13 x80) w45 fun _ w46 =>
 pN Tryz.prog (oLoad 58 x13) w46 fun x82 w47 =>
 pN Tryz.prog (oBin .add 3 (.tmp 83) (.const (.int .i64 1)) v76l12 (.int .i64 1)) w47 fun x84 w48 =>
 pN Tryz.prog (oMapUp 56 x73 x82 x84) w48 fun _ w49 =>
 pDr w49 fun w50 =>
 pA Tryz.prog (oBin .gtr 3 (.tmp 85) (.const (.int .i64 0)) v76l12 (.int .i64 0)) fun x86 =>
 gA (gB x86 true) (pA Tryz.prog (oSl 58 x13 none none none)) fun x88 =>
 gA (gB x86 true) (pL Tryz.prog (oConv 47 9 x88) w50) fun x89 =>
 gA (gB x86 true) (pA Tryz.prog (oMv x63)) fun x90 =>
 gA (gB x86 true) (pA Tryz.prog (oMv v76l12)) fun x91 =>
 gA (gB x86 true) (pA Tryz.prog (oBin .sub 3 (.tmp 91) (.const (.int .i64 1)) x91 (.int .i64 1))) fun x92 =>
 gA (gB x86 true) (pA Tryz.prog (oIdx 52 x90 x92)) fun x93 =>
 gA (gB x86 true) (pA Tryz.prog (oSl 58 x93 none none none)) fun x94 =>
 gA (gB x86 true) (pL Tryz.prog (oConv 47 9 x94) w50) fun x95 =>
 gA (gB x86 true) (pA Tryz.prog (oBin .leq 9 (.tmp 89) (.tmp 95) x89 x95)) fun x96 =>
 pA Tryz.prog (oPick x86 x96 (.bool false)) fun x97 =>
 gA (gB x97 false) (pA Tryz.prog (oMv x24)) fun x99 =>
 gA (gB x97 false) (pL Tryz.prog (oLoad 58 x13) w50) fun x100 =>
 pGd (gB x97 false) (pN Tryz.prog (oCall 18 [x99, x100]) w50) w50 fun x101 w51 =>
 (True) ∧ (gA (gB x97 false) (pA Tryz.prog (oUn .not x101)) fun x102 =>
 pA Tryz.prog (oPick x97 (.bool true) x102) fun x103 =>
 pIf x103
 (Q (.bool false) w51)
 (pN Tryz.prog (oBin .add 3 (.tmp 76) (.const (.int .i64 1)) v76l12 (.int .i64 1)) w51 fun x104 w52 =>
 (L12 x104 w52 ∧ m12 x104 w52 < m12 v76l12 w41))))
 (pN Tryz.prog (oCall 19 [x24]) w42 fun x106 w53 =>
 pN Tryz.prog (oBi .len #[52] 3 [false] [x106]) w53 fun x107 w54 =>
 ∃ (L19 : Value → World → Prop) (m19 : Value → World → Nat),
 L19 (.int .i64 0) w54 ∧
 ∀ (_k19 : Env) (v108l19 : Value) (w55 : World), L19 v108l19 w55 →
 pN Tryz.prog (oBin .lss 3 (.tmp 108) (.tmp 107) v108l19 x107) w55 fun x109 w56 =>
 pIf x109
 (pN Tryz.prog (oIdx 52 x106 v108l19) w56 fun x110 w57 =>
 pN Tryz.prog (oLoad 58 x110) w57 fun x111 w58 =>
 pN Tryz.prog (oAlloc 58) w58 fun x15 w59 =>
 pN Tryz.prog (oStore 58 x15 x111) w59 fun _ w60 =>
 pN Tryz.prog (oLoad 58 x15) w60 fun x113 w61 =>
 pN Tryz.prog (oLook 56 x73 x113 false) w61 fun x114 w62 =>
 pN Tryz.prog (oBin .eql 3 (.tmp 114) (.const (.int .i64 0)) x114 (.int .i64 0)) w62 fun x115 w63 =>
 pGd (gB x115 true) (pN Tryz.prog (oMv x24) w63) w63 fun x117 w64 =>
 pGd (gB x115 true) (pN Tryz.prog (oLoad 58 x15) w64) w64 fun x118 w65 =>
 pGd (gB x115 true) (pN Tryz.prog (oBs 52 1 [(0, x118)]) w65) w65 fun x119 w66 =>
 pGd (gB x115 true) (pN Tryz.prog (oCall 20 [x117, x119]) w66) w66 fun x120 w67 =>
 pGd (gB x115 true) (pN Tryz.prog (oCall 12 [x120]) w67) w67 fun x121 w68 =>
 pGd (gB x115 true) (pN Tryz.prog (oBin .neq 3 (.tmp 121) (.const (.int .i64 0)) x121 (.int .i64 0)) w68) w68 fun x122 w69 =>
 pN Tryz.prog (oPick x115 x122 (.bool false)) w69 fun x123 w70 =>
 pIf x123
 (Q (.bool false) w70)
 (pN Tryz.prog (oBin .add 3 (.tmp 108) (.const (.int .i64 1)) v108l19 (.int .i64 1)) w70 fun x124 w71 =>
 (L19 x124 w71 ∧ m19 x124 w71 < m19 v108l19 w55)))
 (pN Tryz.prog (oCall 21 [x1]) w56 fun x127 w72 =>
 pN Tryz.prog (oExt x127 0) w72 fun x128 w73 =>
 pN Tryz.prog (oExt x127 1) w73 fun _ w74 =>
 pN Tryz.prog (oCall 19 [x24]) w74 fun x131 w75 =>
 pN Tryz.prog (oCall 22 [x131, x63]) w75 fun x133 w76 =>
 pN Tryz.prog (oUn .not x133) w76 fun x134 w77 =>
 pGd (gB x134 false) (pN Tryz.prog (oMv x24) w77) w77 fun x136 w78 =>
 pGd (gB x134 false) (pN Tryz.prog (oMv x128) w78) w78 fun x137 w79 =>
 pGd (gB x134 false) (pN Tryz.prog (oCall 23 [x136, x137]) w79) w79 fun x138 w80 =>
 pGd (gB x134 false) (pN Tryz.prog (oUn .not x138) w80) w80 fun x139 w81 =>
 pN Tryz.prog (oPick x134 (.bool true) x139) w81 fun x140 w82 =>
 pIf x140
 (Q (.bool false) w82)
 (pN Tryz.prog (oBi .len #[52] 3 [false] [x63]) w82 fun x145 w83 =>
 pN Tryz.prog (oBin .rem 3 (.tmp 143) (.tmp 145) x2 x145) w83 fun x146 w84 =>
 pN Tryz.prog (oIdx 52 x63 x146) w84 fun x147 w85 =>
 pN Tryz.prog (oLoad 58 x147) w85 fun x148 w86 =>
 pN Tryz.prog (oBs 52 1 [(0, x148)]) w86 fun x149 w87 =>
 pN Tryz.prog (oCall 20 [x24, x149]) w87 fun x150 w88 =>
 pN Tryz.prog (oCall 12 [x150]) w88 fun x151 w89 =>
 pN Tryz.prog (oBin .neq 3 (.tmp 151) (.const (.int .i64 0)) x151 (.int .i64 0)) w89 fun x152 w90 =>
 pIf x152
 (Q (.bool false) w90)
 (pN Tryz.prog (oCall 24 [x24, (.string ⟨#[108]⟩)]) w90 fun x155 w91 =>
 pN Tryz.prog (oExt x155 0) w91 fun x156 w92 =>
 pN Tryz.prog (oExt x155 1) w92 fun x157 w93 =>
 pN Tryz.prog (oCall 17 [x24, (.string ⟨#[108]⟩)]) w93 fun x160 w94 =>
 pN Tryz.prog (oExt x160 0) w94 fun x161 w95 =>
 pN Tryz.prog (oExt x160 1) w95 fun x162 w96 =>
 pN Tryz.prog (oCall 12 [x157]) w96 fun x164 w97 =>
 pN Tryz.prog (oBin .neq 3 (.tmp 164) (.const (.int .i64 1)) x164 (.int .i64 1)) w97 fun x165 w98 =>
 pGd (gB x165 false) (pN Tryz.prog (oMv x156) w98) w98 fun x167 w99 =>
 pGd (gB x165 false) (pN Tryz.prog (oBi .len #[30] 3 [false] [x167]) w99) w99 fun x168 w100 =>
 pGd (gB x165 false) (pN Tryz.prog (oBin .neq 3 (.tmp 168) (.const (.int .i64 0)) x168 (.int .i64 0)) w100) w100 fun x169 w101 =>
 pN Tryz.prog (oPick x165 (.bool true) x169) w101 fun x170 w102 =>
 pGd (gB x170 false) (pN Tryz.prog (oMv x162) w102) w102 fun x172 w103 =>
 pGd (gB x170 false) (pN Tryz.prog (oCall 12 [x172]) w103) w103 fun x173 w104 =>
 pGd (gB x170 false) (pN Tryz.prog (oBin .eql 3 (.tmp 173) (.const (.int .i64 0)) x173 (.int .i64 0)) w104) w104 fun x174 w105 =>
 pGd (gB x170 false) (pN Tryz.prog (oMv x174) w105) w105 fun x175 w106 =>
 pGd (gB x175 true) (pN Tryz.prog (oMv x161) w106) w106 fun x176 w107 =>
 pGd (gB x175 true) (pN Tryz.prog (oMv x63) w107) w107 fun x177 w108 =>
 pGd (gB x175 true) (pN Tryz.prog (oCall 22 [x176, x177]) w108) w108 fun x178 w109 =>
 pGd (gB x175 true) (pN Tryz.prog (oUn .not x178) w109) w109 fun x179 w110 =>
 pGd (gB x170 false) (pN Tryz.prog (oPick x175 x179 (.bool false)) w110) w110 fun x180 w111 =>
 pN Tryz.prog (oPick x170 (.bool true) x180) w111 fun x181 w112 =>
 pGd (gB x181 false) (pN Tryz.prog (oMv x162) w112) w112 fun x183 w113 =>
 pGd (gB x181 false) (pN Tryz.prog (oCall 12 [x183]) w113) w113 fun x184 w114 =>
 pGd (gB x181 false) (pN Tryz.prog (oBin .neq 3 (.tmp 184) (.const (.int .i64 0)) x184 (.int .i64 0)) w114) w114 fun x185 w115 =>
 pGd (gB x181 false) (pN Tryz.prog (oMv x185) w115) w115 fun x186 w116 =>
 pGd (gB x186 true) (pN Tryz.prog (oMv x162) w116) w116 fun x187 w117 =>
 pGd (gB x186 true) (pN Tryz.prog (oCall 12 [x187]) w117) w117 fun x188 w118 =>
 pGd (gB x186 true) (pN Tryz.prog (oBin .neq 3 (.tmp 188) (.const (.int .i64 1)) x188 (.int .i64 1)) w118) w118 fun x189 w119 =>
 pGd (gB x181 false) (pN Tryz.prog (oPick x186 x189 (.bool false)) w119) w119 fun x190 w120 =>
 pN Tryz.prog (oPick x181 (.bool true) x190) w120 fun x191 w121 =>
 pIf x191
 (Q (.bool false) w121)
 (pN Tryz.prog (oCall 13 [x24, (.string ⟨#[108]⟩), x1]) w121 fun x194 w122 =>
 pN Tryz.prog (oCall 12 [x194]) w122 fun x195 w123 =>
 pN Tryz.prog (oBin .eql 3 (.tmp 195) (.const (.int .i64 0)) x195 (.int .i64 0)) w123 fun x196 w124 =>
 pGd (gB x196 true) (pN Tryz.prog (oMv x24) w124) w124 fun x198 w125 =>
 pGd (gB x196 true) (pN Tryz.prog (oCall 19 [x198]) w125) w125 fun x199 w126 =>
 pGd (gB x196 true) (pN Tryz.prog (oMv x63) w126) w126 fun x200 w127 =>
 pGd (gB x196 true) (pN Tryz.prog (oCall 22 [x199, x200]) w127) w127 fun x201 w128 =>
 pN Tryz.prog (oPick x196 x201 (.bool false)) w128 fun x202 w129 =>
 pGd (gB x202 true) (pN Tryz.prog (oMv x24) w129) w129 fun x204 w130 =>
 pGd (gB x202 true) (pN Tryz.prog (oMv x128) w130) w130 fun x205 w131 =>
 pGd (gB x202 true) (pN Tryz.prog (oCall 23 [x204, x205]) w131) w131 fun x206 w132 =>
 pN Tryz.prog (oPick x202 x206 (.bool false)) w132 fun x207 w133 =>
 pGd (gB x207 true) (pN Tryz.prog (oCall 11 []) w133) w133 fun x209 w134 =>
 pN Tryz.prog (oPick x207 x209 (.bool false)) w134 fun x210 w135 =>
 Q x210 w135))))))))
theorem pithlaw36_SnapNeeds.calls [Pan] {x0 x1 x2 : Value} {w : World} {Q : Value → World → Prop} (h : pithlaw36_SnapNeeds.F x0 x1 x2 w Q) : Calls Tryz.prog 4 #[x0, x1, x2] w (retP Q) := calls_lift mixed pithlaw36_SnapNeeds.H [x0, x1, x2] Tryz.func4 (by kernel_rfl) (by kernel_rfl) h

def pithlaw36_begin.F [Pan] (x0 : Value) (w : World) (Q : Value → World → Prop) : Prop :=
 pN Tryz.prog (oBox 29 x0) w fun x1 w1 =>
 pN Tryz.prog (oFld 29 x1 0) w1 fun x7 w2 =>
 pN Tryz.prog (oLoad 25 x7) w2 fun x8 w3 =>
 pN Tryz.prog (oFld 29 x1 1) w3 fun x9 w4 =>
 pN Tryz.prog (oLoad 27 x9) w4 fun x10 w5 =>
 pN Tryz.prog (oCall 48 [x8, x10]) w5 fun x11 w6 =>
 pN Tryz.prog (oExt x11 0) w6 fun x12 w7 =>
 pN Tryz.prog (oExt x11 1) w7 fun x13 w8 =>
 pN Tryz.prog (oCall 12 [x13]) w8 fun x16 w9 =>
 pN Tryz.prog (oBin .eql 3 (.tmp 16) (.const (.int .i64 0)) x16 (.int .i64 0)) w9 fun x17 w10 =>
 pN Tryz.prog (oBin .neq 31 (.tmp 18) (.const (.pointer none)) x12 (.pointer none)) w10 fun x19 w11 =>
 pN Tryz.prog (oBin .eql 4 (.tmp 17) (.tmp 19) x17 x19) w11 fun x20 w12 =>
 pGd (gB x20 true) (pN Tryz.prog (oMv x13) w12) w12 fun x22 w13 =>
 pGd (gB x20 true) (pN Tryz.prog (oCall 12 [x22]) w13) w13 fun x23 w14 =>
 pGd (gB x20 true) (pN Tryz.prog (oBin .eql 3 (.tmp 23) (.const (.int .i64 0)) x23 (.int .i64 0)) w14) w14 fun x24 w15 =>
 pGd (gB x20 true) (pN Tryz.prog (oMv x24) w15) w15 fun x25 w16 =>
 pGd (gB x25 false) (pN Tryz.prog (oMv x13) w16) w16 fun x26 w17 =>
 pGd (gB x25 false) (pN Tryz.prog (oCall 12 [x26]) w17) w17 fun x27 w18 =>
 pGd (gB x25 false) (pN Tryz.prog (oBin .eql 3 (.tmp 27) (.const (.int .i64 6)) x27 (.int .i64 6)) w18) w18 fun x28 w19 =>
 pGd (gB x20 true) (pN Tryz.prog (oPick x25 (.bool true) x28) w19) w19 fun x29 w20 =>
 pN Tryz.prog (oPick x20 x29 (.bool false)) w20 fun x30 w21 =>
 Q (.tuple #[x12, x30]) w21
theorem pithlaw36_begin.calls [Pan] {x0 : Value} {w : World} {Q : Value → World → Prop} (h : pithlaw36_begin.F x0 w Q) : Calls Tryz.prog 8 #[x0] w (retP Q) := calls_lift mixed .z [x0] Tryz.func8 (by kernel_rfl) (by kernel_rfl) h

def pithlaw36_right.H : Hints := { cut := fun  | _ => none, loop := fun | 2 => ([11], 67106932) | _ => ([], 0), order := fun  | _ => [] }
def pithlaw36_right.F [Pan] (x0 : Value) (w : World) (Q : Value → World → Prop) : Prop :=
 pN Tryz.prog (oBi .len #[30] 3 [false] [x0]) w fun x10 w1 =>
 ∃ (L2 : Value → World → Prop) (m2 : Value → World → Nat),
 L2 (.int .i64 0) w1 ∧
 ∀ (_k2 : Env) (v11l2 : Value) (w2 : World), L2 v11l2 w2 →
 pN Tryz.prog (oBin .lss 3 (.tmp 11) (.tmp 10) v11l2 x10) w2 fun x12 w3 =>
 pIf x12
 (pN Tryz.prog (oIdx 30 x0 v11l2) w3 fun x13 w4 =>
 pN Tryz.prog (oLoad 49 x13) w4 fun x14 w5 =>
 pN Tryz.prog (oAlloc 49) w5 fun x4 w6 =>
 pN Tryz.prog (oStore 49 x4 x14) w6 fun _ w7 =>
 pN Tryz.prog (oLoad 49 x4) w7 fun x16 w8 =>
 pN Tryz.prog (oCall 49 [x16]) w8 fun x17 w9 =>
 pN Tryz.prog (oExt x17 0) w9 fun _ w10 =>
 pN Tryz.prog (oExt x17 1) w10 fun x19 w11 =>
 pN Tryz.prog (oCall 12 [x19]) w11 fun x21 w12 =>
 pN Tryz.prog (oBin .neq 3 (.tmp 21) (.const (.int .i64 0)) x21 (.int .i64 0)) w12 fun x22 w13 =>
 pIf x22
 (pN Tryz.prog (oCall 12 [x19]) w13 fun x24 w14 =>
 Q x24 w14)
 (pN Tryz.prog (oBin .add 3 (.tmp 11) (.const (.int .i64 1)) v11l2 (.int .i64 1)) w13 fun x25 w15 =>
 (L2 x25 w15 ∧ m2 x25 w15 < m2 v11l2 w2)))
 (pN Tryz.prog (oCall 21 [x0]) w3 fun x28 w16 =>
 pN Tryz.prog (oExt x28 0) w16 fun _ w17 =>
 pN Tryz.prog (oExt x28 1) w17 fun x30 w18 =>
 pN Tryz.prog (oUn .not x30) w18 fun x32 w19 =>
 pIf x32
 (Q (.int .i64 9) w19)
 (Q (.int .i64 0) w19))
theorem pithlaw36_right.calls [Pan] {x0 : Value} {w : World} {Q : Value → World → Prop} (h : pithlaw36_right.F x0 w Q) : Calls Tryz.prog 9 #[x0] w (retP Q) := calls_lift mixed pithlaw36_right.H [x0] Tryz.func9 (by kernel_rfl) (by kernel_rfl) h

def pithlaw36_collide.H : Hints := { cut := fun | 12 => some ([5], 562949951324832) | _ => none, loop := fun | 3 => ([5, 19], 1125899906319008) | 8 => ([5, 37], 562812514468384) | 15 => ([53], 151115718444629392158736) | _ => ([], 0), order := fun | 6 => [(0, 0), (1, 1), (2, 3), (3, 7), (5, 15), (6, 47), (4, 111), (7, 127), (8, 255), (9, 511)] | _ => [] }
def pithlaw36_collide.F [Pan] (x0 x1 : Value) (w : World) (Q : Value → World → Prop) : Prop :=
 pN Tryz.prog (oBox 29 x0) w fun x2 w1 =>
 pN Tryz.prog (oBs 72 1 [(0, (.string ⟨#[115, 111, 109, 101, 116, 104, 105, 110, 103, 32, 101, 108, 115, 101, 44, 32, 119, 104, 105, 99, 104, 32, 110, 111, 98, 111, 100, 121, 32, 110, 101, 101, 100, 115]⟩))]) w1 fun x16 w2 =>
 pN Tryz.prog (oBi .len #[104] 3 [false] [x1]) w2 fun x18 w3 =>
 ∃ (L3 : Value → Value → World → Prop) (m3 : Value → Value → World → Nat),
 L3 x16 (.int .i64 0) w3 ∧
 ∀ (_k3 : Env) (all5l3 : Value) (v19l3 : Value) (w4 : World), L3 all5l3 v19l3 w4 →
 pN Tryz.prog (oBin .lss 3 (.tmp 19) (.tmp 18) v19l3 x18) w4 fun x20 w5 =>
 pIf x20
 (∃ I12 : Value → World → Prop,
 (pN Tryz.prog (oIdx 104 x1 v19l3) w5 fun x21 w6 =>
 pN Tryz.prog (oLoad 30 x21) w6 fun x22 w7 =>
 pN Tryz.prog (oCall 9 [x22]) w7 fun x24 w8 =>
 pN Tryz.prog (oBin .neq 3 (.tmp 24) (.const (.int .i64 0)) x24 (.int .i64 0)) w8 fun x25 w9 =>
 pIf x25
 (I12 all5l3 w9)
 (pDr w9 fun w10 =>
 pA Tryz.prog (oFld 29 x2 1) fun x28 =>
 pL Tryz.prog (oLoad 27 x28) w10 fun x29 =>
 pA Tryz.prog (oFld 29 x2 1) fun x31 =>
 pL Tryz.prog (oLoad 27 x31) w10 fun x32 =>
 pN Tryz.prog (oCall 51 [x22, x29]) w10 fun x30 w11 =>
 ((Sem.run Tryz.prog (oLoad 27 x31) w11 = .ok (.value x32) w11) ∧ True) ∧ (pN Tryz.prog (oCall 50 [x30, x32]) w11 fun x33 w12 =>
 (True) ∧ (pN Tryz.prog (oBi .append #[72, 72] 72 [false, false] [all5l3, x33]) w12 fun x34 w13 =>
 (True) ∧ (pN Tryz.prog (oBi .len #[30] 3 [false] [x22]) w13 fun x36 w14 =>
 ∃ (L8 : Value → Value → World → Prop) (m8 : Value → Value → World → Nat),
 L8 x34 (.int .i64 0) w14 ∧
 ∀ (_k8 : Env) (all5l8 : Value) (v37l8 : Value) (w15 : World), L8 all5l8 v37l8 w15 →
 pN Tryz.prog (oBin .lss 3 (.tmp 37) (.tmp 36) v37l8 x36) w15 fun x38 w16 =>
 pIf x38
 (pN Tryz.prog (oIdx 30 x22 v37l8) w16 fun x39 w17 =>
 pN Tryz.prog (oLoad 49 x39) w17 fun x40 w18 =>
 pN Tryz.prog (oAlloc 49) w18 fun x9 w19 =>
 pN Tryz.prog (oStore 49 x9 x40) w19 fun _ w20 =>
 pN Tryz.prog (oFld 49 x9 5) w20 fun x42 w21 =>
 pN Tryz.prog (oLoad 47 x42) w21 fun x43 w22 =>
 pN Tryz.prog (oFld 29 x2 1) w22 fun x44 w23 =>
 pN Tryz.prog (oLoad 27 x44) w23 fun x45 w24 =>
 pN Tryz.prog (oCall 50 [x43, x45]) w24 fun x46 w25 =>
 pN Tryz.prog (oBi .append #[72, 72] 72 [false, false] [all5l8, x46]) w25 fun x47 w26 =>
 pN Tryz.prog (oBin .add 3 (.tmp 37) (.const (.int .i64 1)) v37l8 (.int .i64 1)) w26 fun x48 w27 =>
 (L8 x47 x48 w27 ∧ m8 x47 x48 w27 < m8 all5l8 v37l8 w15))
 (I12 all5l8 w16)))))) ∧
 ∀ (_j12 : Env) (all5c12 : Value) (w28 : World), I12 all5c12 w28 →
 pN Tryz.prog (oBin .add 3 (.tmp 19) (.const (.int .i64 1)) v19l3 (.int .i64 1)) w28 fun x49 w29 =>
 (L3 all5c12 x49 w29 ∧ m3 all5c12 x49 w29 < m3 all5l3 v19l3 w4))
 (pN Tryz.prog (oMap 107 none) w5 fun x50 w30 =>
 pN Tryz.prog (oBi .len #[72] 3 [false] [all5l3]) w30 fun x52 w31 =>
 ∃ (L15 : Value → World → Prop) (m15 : Value → World → Nat),
 L15 (.int .i64 0) w31 ∧
 ∀ (_k15 : Env) (v53l15 : Value) (w32 : World), L15 v53l15 w32 →
 pN Tryz.prog (oBin .lss 3 (.tmp 53) (.tmp 52) v53l15 x52) w32 fun x54 w33 =>
 pIf x54
 (pN Tryz.prog (oIdx 72 all5l3 v53l15) w33 fun x55 w34 =>
 pN Tryz.prog (oLoad 9 x55) w34 fun x56 w35 =>
 pN Tryz.prog (oConv 9 47 x56) w35 fun x58 w36 =>
 pN Tryz.prog (oBs 71 1 [(0, x58)]) w36 fun x59 w37 =>
 pN Tryz.prog (oCall 52 [x59]) w37 fun x60 w38 =>
 pN Tryz.prog (oAlloc 57) w38 fun x13 w39 =>
 pN Tryz.prog (oStore 57 x13 x60) w39 fun _ w40 =>
 pN Tryz.prog (oLoad 57 x13) w40 fun x63 w41 =>
 pN Tryz.prog (oLook 107 x50 x63 true) w41 fun x64 w42 =>
 pN Tryz.prog (oExt x64 0) w42 fun x65 w43 =>
 pN Tryz.prog (oExt x64 1) w43 fun x66 w44 =>
 pGd (gB x66 true) (pN Tryz.prog (oMv x65) w44) w44 fun x69 w45 =>
 pGd (gB x66 true) (pN Tryz.prog (oMv x56) w45) w45 fun x70 w46 =>
 pGd (gB x66 true) (pN Tryz.prog (oBin .neq 9 (.tmp 69) (.tmp 70) x69 x70) w46) w46 fun x71 w47 =>
 pN Tryz.prog (oPick x66 x71 (.bool false)) w47 fun x72 w48 =>
 pIf x72
 (Q (.bool true) w48)
 (pN Tryz.prog (oLoad 57 x13) w48 fun x74 w49 =>
 pN Tryz.prog (oMapUp 107 x50 x74 x56) w49 fun _ w50 =>
 pN Tryz.prog (oBin .add 3 (.tmp 53) (.const (.int .i64 1)) v53l15 (.int .i64 1)) w50 fun x76 w51 =>
 (L15 x76 w51 ∧ m15 x76 w51 < m15 v53l15 w32)))
 (Q (.bool false) w33))
theorem pithlaw36_collide.calls [Pan] {x0 x1 : Value} {w : World} {Q : Value → World → Prop} (h : pithlaw36_collide.F x0 x1 w Q) : Calls Tryz.prog 10 #[x0, x1] w (retP Q) := calls_lift mixed pithlaw36_collide.H [x0, x1] Tryz.func10 (by kernel_rfl) (by kernel_rfl) h

def pithlaw36_known.F [Pan]  (w : World) (Q : Value → World → Prop) : Prop :=
 pN Tryz.prog (oCall 53 []) w fun x11 w1 =>
 pN Tryz.prog (oBs 47 3 [(0, (bv 97)), (1, (bv 98)), (2, (bv 99))]) w1 fun x12 w2 =>
 pN Tryz.prog (oConv 47 47 x12) w2 fun x13 w3 =>
 pN Tryz.prog (oBuild 49 [(0, (.string ⟨#[120]⟩)), (3, (.int .i64 420)), (5, x13)]) w3 fun x14 w4 =>
 pN Tryz.prog (oAlloc 49) w4 fun x2 w5 =>
 pN Tryz.prog (oStore 49 x2 x14) w5 fun _ w6 =>
 pN Tryz.prog (oBuild 49 [(0, (.string ⟨#[100]⟩)), (2, (.int .i64 1)), (3, (.int .i64 493)), (4, (.int .i64 7))]) w6 fun x15 w7 =>
 pN Tryz.prog (oAlloc 49) w7 fun x3 w8 =>
 pN Tryz.prog (oStore 49 x3 x15) w8 fun _ w9 =>
 pN Tryz.prog (oBin .eql 31 (.tmp 16) (.const (.pointer none)) x11 (.pointer none)) w9 fun x17 w10 =>
 pGd (gB x17 false) (pN Tryz.prog (oMv x11) w10) w10 fun x19 w11 =>
 pGd (gB x17 false) (pN Tryz.prog (oLoad 49 x2) w11) w11 fun x20 w12 =>
 pGd (gB x17 false) (pN Tryz.prog (oLoad 49 x3) w12) w12 fun x21 w13 =>
 pGd (gB x17 false) (pN Tryz.prog (oBs 30 2 [(0, x20), (1, x21)]) w13) w13 fun x22 w14 =>
 pGd (gB x17 false) (pN Tryz.prog (oCall 13 [x19, (.string ⟨#[111, 110, 101]⟩), x22]) w14) w14 fun x23 w15 =>
 pGd (gB x17 false) (pN Tryz.prog (oCall 12 [x23]) w15) w15 fun x24 w16 =>
 pGd (gB x17 false) (pN Tryz.prog (oBin .neq 3 (.tmp 24) (.const (.int .i64 0)) x24 (.int .i64 0)) w16) w16 fun x25 w17 =>
 pN Tryz.prog (oPick x17 (.bool true) x25) w17 fun x26 w18 =>
 pGd (gB x26 false) (pN Tryz.prog (oMv x11) w18) w18 fun x28 w19 =>
 pGd (gB x26 false) (pN Tryz.prog (oLoad 49 x2) w19) w19 fun x29 w20 =>
 pGd (gB x26 false) (pN Tryz.prog (oLoad 49 x2) w20) w20 fun x30 w21 =>
 pGd (gB x26 false) (pN Tryz.prog (oBs 30 2 [(0, x29), (1, x30)]) w21) w21 fun x31 w22 =>
 pGd (gB x26 false) (pN Tryz.prog (oCall 13 [x28, (.string ⟨#[98, 97, 100]⟩), x31]) w22) w22 fun x32 w23 =>
 pGd (gB x26 false) (pN Tryz.prog (oCall 12 [x32]) w23) w23 fun x33 w24 =>
 pGd (gB x26 false) (pN Tryz.prog (oBin .neq 3 (.tmp 33) (.const (.int .i64 9)) x33 (.int .i64 9)) w24) w24 fun x34 w25 =>
 pN Tryz.prog (oPick x26 (.bool true) x34) w25 fun x35 w26 =>
 pIf x35
 (Q (.bool false) w26)
 (pN Tryz.prog (oCall 24 [x11, (.string ⟨#[111, 110, 101]⟩)]) w26 fun x38 w27 =>
 pN Tryz.prog (oExt x38 0) w27 fun x39 w28 =>
 pN Tryz.prog (oExt x38 1) w28 fun x40 w29 =>
 pN Tryz.prog (oCall 54 [x11, (.string ⟨#[111, 110, 101]⟩)]) w29 fun x43 w30 =>
 pN Tryz.prog (oExt x43 0) w30 fun x44 w31 =>
 pN Tryz.prog (oExt x43 1) w31 fun x45 w32 =>
 pN Tryz.prog (oCall 55 [x11, x44]) w32 fun x49 w33 =>
 pN Tryz.prog (oExt x49 0) w33 fun x50 w34 =>
 pN Tryz.prog (oExt x49 1) w34 fun x51 w35 =>
 pN Tryz.prog (oCall 12 [x40]) w35 fun x53 w36 =>
 pN Tryz.prog (oBin .eql 3 (.tmp 53) (.const (.int .i64 0)) x53 (.int .i64 0)) w36 fun x54 w37 =>
 pGd (gB x54 true) (pN Tryz.prog (oMv x39) w37) w37 fun x56 w38 =>
 pGd (gB x54 true) (pN Tryz.prog (oLoad 49 x3) w38) w38 fun x57 w39 =>
 pGd (gB x54 true) (pN Tryz.prog (oLoad 49 x2) w39) w39 fun x58 w40 =>
 pGd (gB x54 true) (pN Tryz.prog (oBs 30 2 [(0, x57), (1, x58)]) w40) w40 fun x59 w41 =>
 pGd (gB x54 true) (pN Tryz.prog (oCall 27 [x56, x59]) w41) w41 fun x60 w42 =>
 pN Tryz.prog (oPick x54 x60 (.bool false)) w42 fun x61 w43 =>
 pGd (gB x61 true) (pN Tryz.prog (oMv x45) w43) w43 fun x63 w44 =>
 pGd (gB x61 true) (pN Tryz.prog (oCall 12 [x63]) w44) w44 fun x64 w45 =>
 pGd (gB x61 true) (pN Tryz.prog (oBin .eql 3 (.tmp 64) (.const (.int .i64 0)) x64 (.int .i64 0)) w45) w45 fun x65 w46 =>
 pN Tryz.prog (oPick x61 x65 (.bool false)) w46 fun x66 w47 =>
 pGd (gB x66 true) (pN Tryz.prog (oMv x51) w47) w47 fun x68 w48 =>
 pGd (gB x66 true) (pN Tryz.prog (oCall 12 [x68]) w48) w48 fun x69 w49 =>
 pGd (gB x66 true) (pN Tryz.prog (oBin .eql 3 (.tmp 69) (.const (.int .i64 0)) x69 (.int .i64 0)) w49) w49 fun x70 w50 =>
 pN Tryz.prog (oPick x66 x70 (.bool false)) w50 fun x71 w51 =>
 pGd (gB x71 true) (pN Tryz.prog (oMv x50) w51) w51 fun x73 w52 =>
 pGd (gB x71 true) (pN Tryz.prog (oBi .len #[47] 3 [false] [x73]) w52) w52 fun x74 w53 =>
 pGd (gB x71 true) (pN Tryz.prog (oBin .eql 3 (.tmp 74) (.const (.int .i64 46)) x74 (.int .i64 46)) w53) w53 fun x75 w54 =>
 pN Tryz.prog (oPick x71 x75 (.bool false)) w54 fun x76 w55 =>
 pGd (gB x76 true) (pN Tryz.prog (oMv x50) w55) w55 fun x78 w56 =>
 pGd (gB x76 true) (pN Tryz.prog (oSl 47 x78 none (some (.int .i64 14)) none) w56) w56 fun x79 w57 =>
 pGd (gB x76 true) (pN Tryz.prog (oConv 47 9 x79) w57) w57 fun x80 w58 =>
 pGd (gB x76 true) (pN Tryz.prog (oMv (.string ⟨#[2, 1, 237, 3, 7, 1, 100, 0, 164, 3, 0, 1, 120, 1]⟩)) w58) w58 fun x81 w59 =>
 pGd (gB x76 true) (pN Tryz.prog (oBin .eql 9 (.tmp 80) (.tmp 81) x80 x81) w59) w59 fun x82 w60 =>
 pN Tryz.prog (oPick x76 x82 (.bool false)) w60 fun x83 w61 =>
 pGd (gB x83 true) (pN Tryz.prog (oMv x11) w61) w61 fun x85 w62 =>
 pGd (gB x83 true) (pN Tryz.prog (oCall 30 [x85]) w62) w62 fun x86 w63 =>
 pGd (gB x83 true) (pN Tryz.prog (oBi .len #[72] 3 [false] [x86]) w63) w63 fun x87 w64 =>
 pGd (gB x83 true) (pN Tryz.prog (oBin .eql 3 (.tmp 87) (.const (.int .i64 1)) x87 (.int .i64 1)) w64) w64 fun x88 w65 =>
 pN Tryz.prog (oPick x83 x88 (.bool false)) w65 fun x89 w66 =>
 Q x89 w66)
theorem pithlaw36_known.calls [Pan]  {w : World} {Q : Value → World → Prop} (h : pithlaw36_known.F  w Q) : Calls Tryz.prog 11 #[] w (retP Q) := calls_lift mixed .z [] Tryz.func11 (by kernel_rfl) (by kernel_rfl) h

def pithlaw36_num.F [Pan] (x0 : Value) (w : World) (Q : Value → World → Prop) : Prop :=
 Q x0 w
theorem pithlaw36_num.calls [Pan] {x0 : Value} {w : World} {Q : Value → World → Prop} (h : pithlaw36_num.F x0 w Q) : Calls Tryz.prog 12 #[x0] w (retP Q) := calls_lift mixed .z [x0] Tryz.func12 (by kernel_rfl) (by kernel_rfl) h

def pithlaw36_same.F [Pan] (x0 x1 : Value) (w : World) (Q : Value → World → Prop) : Prop :=
 pN Tryz.prog (oBox 49 x0) w fun x2 w1 =>
 pN Tryz.prog (oBox 49 x1) w1 fun x3 w2 =>
 pN Tryz.prog (oFld 49 x2 0) w2 fun x5 w3 =>
 pN Tryz.prog (oLoad 9 x5) w3 fun x6 w4 =>
 pN Tryz.prog (oFld 49 x3 0) w4 fun x7 w5 =>
 pN Tryz.prog (oLoad 9 x7) w5 fun x8 w6 =>
 pN Tryz.prog (oBin .eql 9 (.tmp 6) (.tmp 8) x6 x8) w6 fun x9 w7 =>
 pGd (gB x9 true) (pN Tryz.prog (oFld 49 x2 1) w7) w7 fun x11 w8 =>
 pGd (gB x9 true) (pN Tryz.prog (oLoad 9 x11) w8) w8 fun x12 w9 =>
 pGd (gB x9 true) (pN Tryz.prog (oFld 49 x3 1) w9) w9 fun x13 w10 =>
 pGd (gB x9 true) (pN Tryz.prog (oLoad 9 x13) w10) w10 fun x14 w11 =>
 pGd (gB x9 true) (pN Tryz.prog (oBin .eql 9 (.tmp 12) (.tmp 14) x12 x14) w11) w11 fun x15 w12 =>
 pN Tryz.prog (oPick x9 x15 (.bool false)) w12 fun x16 w13 =>
 pGd (gB x16 true) (pN Tryz.prog (oFld 49 x2 2) w13) w13 fun x18 w14 =>
 pGd (gB x16 true) (pN Tryz.prog (oLoad 3 x18) w14) w14 fun x19 w15 =>
 pGd (gB x16 true) (pN Tryz.prog (oFld 49 x3 2) w15) w15 fun x20 w16 =>
 pGd (gB x16 true) (pN Tryz.prog (oLoad 3 x20) w16) w16 fun x21 w17 =>
 pGd (gB x16 true) (pN Tryz.prog (oBin .eql 3 (.tmp 19) (.tmp 21) x19 x21) w17) w17 fun x22 w18 =>
 pN Tryz.prog (oPick x16 x22 (.bool false)) w18 fun x23 w19 =>
 pGd (gB x23 true) (pN Tryz.prog (oFld 49 x2 3) w19) w19 fun x25 w20 =>
 pGd (gB x23 true) (pN Tryz.prog (oLoad 3 x25) w20) w20 fun x26 w21 =>
 pGd (gB x23 true) (pN Tryz.prog (oFld 49 x3 3) w21) w21 fun x27 w22 =>
 pGd (gB x23 true) (pN Tryz.prog (oLoad 3 x27) w22) w22 fun x28 w23 =>
 pGd (gB x23 true) (pN Tryz.prog (oBin .eql 3 (.tmp 26) (.tmp 28) x26 x28) w23) w23 fun x29 w24 =>
 pN Tryz.prog (oPick x23 x29 (.bool false)) w24 fun x30 w25 =>
 pGd (gB x30 true) (pN Tryz.prog (oFld 49 x2 4) w25) w25 fun x32 w26 =>
 pGd (gB x30 true) (pN Tryz.prog (oLoad 3 x32) w26) w26 fun x33 w27 =>
 pGd (gB x30 true) (pN Tryz.prog (oFld 49 x3 4) w27) w27 fun x34 w28 =>
 pGd (gB x30 true) (pN Tryz.prog (oLoad 3 x34) w28) w28 fun x35 w29 =>
 pGd (gB x30 true) (pN Tryz.prog (oBin .eql 3 (.tmp 33) (.tmp 35) x33 x35) w29) w29 fun x36 w30 =>
 pN Tryz.prog (oPick x30 x36 (.bool false)) w30 fun x37 w31 =>
 pGd (gB x37 true) (pN Tryz.prog (oFld 49 x2 5) w31) w31 fun x39 w32 =>
 pGd (gB x37 true) (pN Tryz.prog (oLoad 47 x39) w32) w32 fun x40 w33 =>
 pGd (gB x37 true) (pN Tryz.prog (oConv 47 9 x40) w33) w33 fun x41 w34 =>
 pGd (gB x37 true) (pN Tryz.prog (oFld 49 x3 5) w34) w34 fun x42 w35 =>
 pGd (gB x37 true) (pN Tryz.prog (oLoad 47 x42) w35) w35 fun x43 w36 =>
 pGd (gB x37 true) (pN Tryz.prog (oConv 47 9 x43) w36) w36 fun x44 w37 =>
 pGd (gB x37 true) (pN Tryz.prog (oBin .eql 9 (.tmp 41) (.tmp 44) x41 x44) w37) w37 fun x45 w38 =>
 pN Tryz.prog (oPick x37 x45 (.bool false)) w38 fun x46 w39 =>
 Q x46 w39
theorem pithlaw36_same.calls [Pan] {x0 x1 : Value} {w : World} {Q : Value → World → Prop} (h : pithlaw36_same.F x0 x1 w Q) : Calls Tryz.prog 15 #[x0, x1] w (retP Q) := calls_lift mixed .z [x0, x1] Tryz.func15 (by kernel_rfl) (by kernel_rfl) h

def pithlaw36_sorted.H : Hints := { cut := fun  | _ => none, loop := fun | 3 => ([4, 10], 295147905179352825052) | 7 => ([7], 147573952589674315916) | _ => ([], 0), order := fun | 7 => [(0, 0), (1, 1), (2, 3), (3, 7), (4, 15), (5, 31), (6, 63), (7, 127), (8, 255), (9, 511), (10, 1023), (11, 2047), (12, 4095), (13, 8191), (14, 16383), (15, 32767)] | 9 => [(0, 0), (1, 1), (2, 3), (3, 7), (4, 15), (5, 31), (6, 63), (7, 127), (8, 255), (9, 511), (10, 1023), (11, 2047)] | 11 => [(0, 0), (1, 1), (2, 3), (3, 7), (4, 15), (5, 31), (6, 63), (7, 127), (8, 255), (9, 511), (10, 1023), (11, 2047), (12, 4095), (13, 8191), (14, 16383), (15, 32767), (16, 65535), (17, 131071)] | _ => [] }
def pithlaw36_sorted.F [Pan] (x0 : Value) (w : World) (Q : Value → World → Prop) : Prop :=
 pN Tryz.prog (oBi .len #[30] 3 [false] [x0]) w fun x9 w1 =>
 ∃ (L3 : Value → Value → World → Prop) (m3 : Value → Value → World → Nat),
 L3 (.slice none 0 0) (.int .i64 0) w1 ∧
 ∀ (_k3 : Env) (c4l3 : Value) (v10l3 : Value) (w2 : World), L3 c4l3 v10l3 w2 →
 pN Tryz.prog (oBin .lss 3 (.tmp 10) (.tmp 9) v10l3 x9) w2 fun x11 w3 =>
 pIf x11
 (pN Tryz.prog (oIdx 30 x0 v10l3) w3 fun x12 w4 =>
 pN Tryz.prog (oLoad 49 x12) w4 fun x13 w5 =>
 pN Tryz.prog (oAlloc 49) w5 fun x6 w6 =>
 pN Tryz.prog (oStore 49 x6 x13) w6 fun _ w7 =>
 pN Tryz.prog (oLoad 49 x6) w7 fun x15 w8 =>
 pN Tryz.prog (oBs 30 1 [(0, x15)]) w8 fun x16 w9 =>
 pN Tryz.prog (oBi .append #[30, 30] 30 [false, false] [c4l3, x16]) w9 fun x17 w10 =>
 pN Tryz.prog (oBi .len #[30] 3 [false] [x17]) w10 fun x19 w11 =>
 pN Tryz.prog (oBin .sub 3 (.tmp 19) (.const (.int .i64 1)) x19 (.int .i64 1)) w11 fun x20 w12 =>
 ∃ (L7 : Value → World → Prop) (m7 : Value → World → Nat),
 L7 x20 w12 ∧
 ∀ (_k7 : Env) (j7l7 : Value) (w13 : World), L7 j7l7 w13 →
 pDr w13 fun w14 =>
 pA Tryz.prog (oBin .gtr 3 (.tmp 21) (.const (.int .i64 0)) j7l7 (.int .i64 0)) fun x22 =>
 gA (gB x22 true) (pA Tryz.prog (oMv x17)) fun x24 =>
 gA (gB x22 true) (pA Tryz.prog (oMv j7l7)) fun x25 =>
 gA (gB x22 true) (pA Tryz.prog (oIdx 30 x24 x25)) fun x26 =>
 gA (gB x22 true) (pA Tryz.prog (oFld 49 x26 0)) fun x27 =>
 gA (gB x22 true) (pL Tryz.prog (oLoad 9 x27) w14) fun x28 =>
 gA (gB x22 true) (pA Tryz.prog (oMv x17)) fun x29 =>
 gA (gB x22 true) (pA Tryz.prog (oMv j7l7)) fun x30 =>
 gA (gB x22 true) (pA Tryz.prog (oBin .sub 3 (.tmp 30) (.const (.int .i64 1)) x30 (.int .i64 1))) fun x31 =>
 gA (gB x22 true) (pA Tryz.prog (oIdx 30 x29 x31)) fun x32 =>
 gA (gB x22 true) (pA Tryz.prog (oFld 49 x32 0)) fun x33 =>
 gA (gB x22 true) (pL Tryz.prog (oLoad 9 x33) w14) fun x34 =>
 gA (gB x22 true) (pA Tryz.prog (oBin .leq 9 (.tmp 28) (.tmp 34) x28 x34)) fun x35 =>
 pA Tryz.prog (oPick x22 x35 (.bool false)) fun x36 =>
 pIf x36
 (pDr w14 fun w15 =>
 pA Tryz.prog (oIdx 30 x17 j7l7) fun x41 =>
 pA Tryz.prog (oFld 49 x41 0) fun x42 =>
 pL Tryz.prog (oLoad 9 x42) w15 fun x43 =>
 pA Tryz.prog (oBin .sub 3 (.tmp 45) (.const (.int .i64 1)) j7l7 (.int .i64 1)) fun x46 =>
 pA Tryz.prog (oIdx 30 x17 x46) fun x47 =>
 pA Tryz.prog (oFld 49 x47 0) fun x48 =>
 pL Tryz.prog (oLoad 9 x48) w15 fun x49 =>
 pA Tryz.prog (oBin .eql 9 (.tmp 43) (.tmp 49) x43 x49) fun x50 =>
 pIf x50
 (Q (.tuple #[(.slice none 0 0), (.bool false)]) w15)
 (pDr w15 fun w16 =>
 pA Tryz.prog (oBin .sub 3 (.tmp 54) (.const (.int .i64 1)) j7l7 (.int .i64 1)) fun x55 =>
 pA Tryz.prog (oBin .sub 3 (.tmp 57) (.const (.int .i64 1)) j7l7 (.int .i64 1)) fun x58 =>
 pA Tryz.prog (oIdx 30 x17 x58) fun x59 =>
 pL Tryz.prog (oLoad 49 x59) w16 fun x60 =>
 pA Tryz.prog (oIdx 30 x17 j7l7) fun x63 =>
 pL Tryz.prog (oLoad 49 x63) w16 fun x64 =>
 pA Tryz.prog (oIdx 30 x17 j7l7) fun x65 =>
 pN Tryz.prog (oStore 49 x65 x60) w16 fun _ w17 =>
 (True) ∧ (pA Tryz.prog (oIdx 30 x17 x55) fun x66 =>
 pN Tryz.prog (oStore 49 x66 x64) w17 fun _ w18 =>
 (True) ∧ (pN Tryz.prog (oBin .sub 3 (.tmp 37) (.const (.int .i64 1)) j7l7 (.int .i64 1)) w18 fun x38 w19 =>
 (L7 x38 w19 ∧ m7 x38 w19 < m7 j7l7 w13)))))
 (pN Tryz.prog (oBin .add 3 (.tmp 10) (.const (.int .i64 1)) v10l3 (.int .i64 1)) w14 fun x67 w20 =>
 (L3 x17 x67 w20 ∧ m3 x17 x67 w20 < m3 c4l3 v10l3 w2)))
 (Q (.tuple #[c4l3, (.bool true)]) w3)
theorem pithlaw36_sorted.calls [Pan] {x0 : Value} {w : World} {Q : Value → World → Prop} (h : pithlaw36_sorted.F x0 w Q) : Calls Tryz.prog 21 #[x0] w (retP Q) := calls_lift mixed pithlaw36_sorted.H [x0] Tryz.func21 (by kernel_rfl) (by kernel_rfl) h

def pithlaw36_sameIDs.H : Hints := { cut := fun  | _ => none, loop := fun | 4 => ([13], 67100720) | _ => ([], 0), order := fun | 6 => [(0, 0), (1, 1), (2, 3), (3, 7), (4, 15), (5, 31), (6, 63), (7, 127), (8, 255)] | _ => [] }
def pithlaw36_sameIDs.F [Pan] (x0 x1 : Value) (w : World) (Q : Value → World → Prop) : Prop :=
 pN Tryz.prog (oBi .len #[52] 3 [false] [x0]) w fun x7 w1 =>
 pN Tryz.prog (oBi .len #[52] 3 [false] [x1]) w1 fun x9 w2 =>
 pN Tryz.prog (oBin .neq 3 (.tmp 7) (.tmp 9) x7 x9) w2 fun x10 w3 =>
 pIf x10
 (Q (.bool false) w3)
 (pN Tryz.prog (oBi .len #[52] 3 [false] [x0]) w3 fun x12 w4 =>
 ∃ (L4 : Value → World → Prop) (m4 : Value → World → Nat),
 L4 (.int .i64 0) w4 ∧
 ∀ (_k4 : Env) (v13l4 : Value) (w5 : World), L4 v13l4 w5 →
 pN Tryz.prog (oBin .lss 3 (.tmp 13) (.tmp 12) v13l4 x12) w5 fun x14 w6 =>
 pIf x14
 (pDr w6 fun w7 =>
 pA Tryz.prog (oIdx 52 x0 v13l4) fun x18 =>
 pL Tryz.prog (oLoad 58 x18) w7 fun x19 =>
 pA Tryz.prog (oIdx 52 x1 v13l4) fun x22 =>
 pL Tryz.prog (oLoad 58 x22) w7 fun x23 =>
 pA Tryz.prog (oBin .neq 58 (.tmp 19) (.tmp 23) x19 x23) fun x24 =>
 pIf x24
 (Q (.bool false) w7)
 (pN Tryz.prog (oBin .add 3 (.tmp 13) (.const (.int .i64 1)) v13l4 (.int .i64 1)) w7 fun x25 w8 =>
 (L4 x25 w8 ∧ m4 x25 w8 < m4 v13l4 w5)))
 (Q (.bool true) w6))
theorem pithlaw36_sameIDs.calls [Pan] {x0 x1 : Value} {w : World} {Q : Value → World → Prop} (h : pithlaw36_sameIDs.F x0 x1 w Q) : Calls Tryz.prog 22 #[x0, x1] w (retP Q) := calls_lift mixed pithlaw36_sameIDs.H [x0, x1] Tryz.func22 (by kernel_rfl) (by kernel_rfl) h

def pithlaw36_holds.H : Hints := { cut := fun  | _ => none, loop := fun | 7 => ([65], 77371215561848119762120720) | _ => ([], 0), order := fun  | _ => [] }
def pithlaw36_holds.F [Pan] (x0 x1 : Value) (w : World) (Q : Value → World → Prop) : Prop :=
 pN Tryz.prog (oCall 24 [x0, (.string ⟨#[108]⟩)]) w fun x17 w1 =>
 pN Tryz.prog (oExt x17 0) w1 fun x18 w2 =>
 pN Tryz.prog (oExt x17 1) w2 fun x19 w3 =>
 pN Tryz.prog (oCall 29 [x0, (.string ⟨#[108]⟩)]) w3 fun x22 w4 =>
 pN Tryz.prog (oExt x22 0) w4 fun x23 w5 =>
 pN Tryz.prog (oExt x22 1) w5 fun x24 w6 =>
 pN Tryz.prog (oCall 25 [x1]) w6 fun x27 w7 =>
 pN Tryz.prog (oExt x27 0) w7 fun x28 w8 =>
 pN Tryz.prog (oExt x27 1) w8 fun x29 w9 =>
 pN Tryz.prog (oCall 12 [x19]) w9 fun x31 w10 =>
 pN Tryz.prog (oBin .neq 3 (.tmp 31) (.const (.int .i64 0)) x31 (.int .i64 0)) w10 fun x32 w11 =>
 pGd (gB x32 false) (pN Tryz.prog (oMv x24) w11) w11 fun x34 w12 =>
 pGd (gB x32 false) (pN Tryz.prog (oCall 12 [x34]) w12) w12 fun x35 w13 =>
 pGd (gB x32 false) (pN Tryz.prog (oBin .neq 3 (.tmp 35) (.const (.int .i64 0)) x35 (.int .i64 0)) w13) w13 fun x36 w14 =>
 pN Tryz.prog (oPick x32 (.bool true) x36) w14 fun x37 w15 =>
 pGd (gB x37 false) (pN Tryz.prog (oMv x29) w15) w15 fun x39 w16 =>
 pGd (gB x37 false) (pN Tryz.prog (oCall 12 [x39]) w16) w16 fun x40 w17 =>
 pGd (gB x37 false) (pN Tryz.prog (oBin .neq 3 (.tmp 40) (.const (.int .i64 0)) x40 (.int .i64 0)) w17) w17 fun x41 w18 =>
 pN Tryz.prog (oPick x37 (.bool true) x41) w18 fun x42 w19 =>
 pGd (gB x42 false) (pN Tryz.prog (oMv x18) w19) w19 fun x44 w20 =>
 pGd (gB x42 false) (pN Tryz.prog (oMv x1) w20) w20 fun x45 w21 =>
 pGd (gB x42 false) (pN Tryz.prog (oCall 27 [x44, x45]) w21) w21 fun x46 w22 =>
 pGd (gB x42 false) (pN Tryz.prog (oUn .not x46) w22) w22 fun x47 w23 =>
 pN Tryz.prog (oPick x42 (.bool true) x47) w23 fun x48 w24 =>
 pGd (gB x48 false) (pN Tryz.prog (oMv x23) w24) w24 fun x50 w25 =>
 pGd (gB x48 false) (pN Tryz.prog (oConv 47 9 x50) w25) w25 fun x51 w26 =>
 pGd (gB x48 false) (pN Tryz.prog (oMv x28) w26) w26 fun x52 w27 =>
 pGd (gB x48 false) (pN Tryz.prog (oConv 47 9 x52) w27) w27 fun x53 w28 =>
 pGd (gB x48 false) (pN Tryz.prog (oBin .neq 9 (.tmp 51) (.tmp 53) x51 x53) w28) w28 fun x54 w29 =>
 pN Tryz.prog (oPick x48 (.bool true) x54) w29 fun x55 w30 =>
 pGd (gB x55 false) (pN Tryz.prog (oMv x0) w30) w30 fun x57 w31 =>
 pGd (gB x55 false) (pN Tryz.prog (oCall 30 [x57]) w31) w31 fun x58 w32 =>
 pGd (gB x55 false) (pN Tryz.prog (oBs 72 1 [(0, (.string ⟨#[108]⟩))]) w32) w32 fun x59 w33 =>
 pGd (gB x55 false) (pN Tryz.prog (oCall 33 [x58, x59]) w33) w33 fun x60 w34 =>
 pGd (gB x55 false) (pN Tryz.prog (oUn .not x60) w34) w34 fun x61 w35 =>
 pN Tryz.prog (oPick x55 (.bool true) x61) w35 fun x62 w36 =>
 pIf x62
 (Q (.bool false) w36)
 (pN Tryz.prog (oBi .len #[30] 3 [false] [x1]) w36 fun x64 w37 =>
 ∃ (L7 : Value → World → Prop) (m7 : Value → World → Nat),
 L7 (.int .i64 0) w37 ∧
 ∀ (_k7 : Env) (v65l7 : Value) (w38 : World), L7 v65l7 w38 →
 pN Tryz.prog (oBin .lss 3 (.tmp 65) (.tmp 64) v65l7 x64) w38 fun x66 w39 =>
 pIf x66
 (pN Tryz.prog (oIdx 30 x1 v65l7) w39 fun x67 w40 =>
 pN Tryz.prog (oLoad 49 x67) w40 fun x68 w41 =>
 pN Tryz.prog (oAlloc 49) w41 fun x12 w42 =>
 pN Tryz.prog (oStore 49 x12 x68) w42 fun _ w43 =>
 pN Tryz.prog (oFld 49 x12 0) w43 fun x71 w44 =>
 pN Tryz.prog (oLoad 9 x71) w44 fun x72 w45 =>
 pN Tryz.prog (oCall 28 [x0, (.string ⟨#[108]⟩), x72]) w45 fun x73 w46 =>
 pN Tryz.prog (oExt x73 0) w46 fun x74 w47 =>
 pN Tryz.prog (oExt x73 1) w47 fun x75 w48 =>
 pN Tryz.prog (oAlloc 49) w48 fun x13 w49 =>
 pN Tryz.prog (oStore 49 x13 x74) w49 fun _ w50 =>
 pN Tryz.prog (oCall 12 [x75]) w50 fun x77 w51 =>
 pN Tryz.prog (oBin .neq 3 (.tmp 77) (.const (.int .i64 0)) x77 (.int .i64 0)) w51 fun x78 w52 =>
 pGd (gB x78 false) (pN Tryz.prog (oLoad 49 x12) w52) w52 fun x80 w53 =>
 pGd (gB x78 false) (pN Tryz.prog (oLoad 49 x13) w53) w53 fun x81 w54 =>
 pGd (gB x78 false) (pN Tryz.prog (oCall 15 [x80, x81]) w54) w54 fun x82 w55 =>
 pGd (gB x78 false) (pN Tryz.prog (oUn .not x82) w55) w55 fun x83 w56 =>
 pN Tryz.prog (oPick x78 (.bool true) x83) w56 fun x84 w57 =>
 pIf x84
 (Q (.bool false) w57)
 (pN Tryz.prog (oBin .add 3 (.tmp 65) (.const (.int .i64 1)) v65l7 (.int .i64 1)) w57 fun x85 w58 =>
 (L7 x85 w58 ∧ m7 x85 w58 < m7 v65l7 w38)))
 (pN Tryz.prog (oCall 28 [x0, (.string ⟨#[108]⟩), (.string ⟨#[110, 111, 32, 115, 117, 99, 104, 32, 105, 116, 101, 109, 0]⟩)]) w39 fun x88 w59 =>
 pN Tryz.prog (oExt x88 0) w59 fun _ w60 =>
 pN Tryz.prog (oExt x88 1) w60 fun x90 w61 =>
 pN Tryz.prog (oCall 12 [x90]) w61 fun x92 w62 =>
 pN Tryz.prog (oBin .eql 3 (.tmp 92) (.const (.int .i64 8)) x92 (.int .i64 8)) w62 fun x93 w63 =>
 Q x93 w63))
theorem pithlaw36_holds.calls [Pan] {x0 x1 : Value} {w : World} {Q : Value → World → Prop} (h : pithlaw36_holds.F x0 x1 w Q) : Calls Tryz.prog 23 #[x0, x1] w (retP Q) := calls_lift mixed pithlaw36_holds.H [x0, x1] Tryz.func23 (by kernel_rfl) (by kernel_rfl) h

def pithlaw36_sameAll.H : Hints := { cut := fun  | _ => none, loop := fun | 4 => ([13], 134209584) | _ => ([], 0), order := fun | 6 => [(0, 0), (1, 1), (2, 3), (3, 7), (4, 15), (5, 31), (6, 63), (7, 127), (8, 255), (9, 511)] | _ => [] }
def pithlaw36_sameAll.F [Pan] (x0 x1 : Value) (w : World) (Q : Value → World → Prop) : Prop :=
 pN Tryz.prog (oBi .len #[30] 3 [false] [x0]) w fun x7 w1 =>
 pN Tryz.prog (oBi .len #[30] 3 [false] [x1]) w1 fun x9 w2 =>
 pN Tryz.prog (oBin .neq 3 (.tmp 7) (.tmp 9) x7 x9) w2 fun x10 w3 =>
 pIf x10
 (Q (.bool false) w3)
 (pN Tryz.prog (oBi .len #[30] 3 [false] [x0]) w3 fun x12 w4 =>
 ∃ (L4 : Value → World → Prop) (m4 : Value → World → Nat),
 L4 (.int .i64 0) w4 ∧
 ∀ (_k4 : Env) (v13l4 : Value) (w5 : World), L4 v13l4 w5 →
 pN Tryz.prog (oBin .lss 3 (.tmp 13) (.tmp 12) v13l4 x12) w5 fun x14 w6 =>
 pIf x14
 (pDr w6 fun w7 =>
 pA Tryz.prog (oIdx 30 x0 v13l4) fun x18 =>
 pL Tryz.prog (oLoad 49 x18) w7 fun x19 =>
 pA Tryz.prog (oIdx 30 x1 v13l4) fun x22 =>
 pL Tryz.prog (oLoad 49 x22) w7 fun x23 =>
 pN Tryz.prog (oCall 15 [x19, x23]) w7 fun x24 w8 =>
 (True) ∧ (pA Tryz.prog (oUn .not x24) fun x25 =>
 pIf x25
 (Q (.bool false) w8)
 (pN Tryz.prog (oBin .add 3 (.tmp 13) (.const (.int .i64 1)) v13l4 (.int .i64 1)) w8 fun x26 w9 =>
 (L4 x26 w9 ∧ m4 x26 w9 < m4 v13l4 w5))))
 (Q (.bool true) w6))
theorem pithlaw36_sameAll.calls [Pan] {x0 x1 : Value} {w : World} {Q : Value → World → Prop} (h : pithlaw36_sameAll.F x0 x1 w Q) : Calls Tryz.prog 27 #[x0, x1] w (retP Q) := calls_lift mixed pithlaw36_sameAll.H [x0, x1] Tryz.func27 (by kernel_rfl) (by kernel_rfl) h

def pithlaw36_sameNames.H : Hints := { cut := fun  | _ => none, loop := fun | 4 => ([13], 67100720) | _ => ([], 0), order := fun | 6 => [(0, 0), (1, 1), (2, 3), (3, 7), (4, 15), (5, 31), (6, 63), (7, 127), (8, 255)] | _ => [] }
def pithlaw36_sameNames.F [Pan] (x0 x1 : Value) (w : World) (Q : Value → World → Prop) : Prop :=
 pN Tryz.prog (oBi .len #[72] 3 [false] [x0]) w fun x7 w1 =>
 pN Tryz.prog (oBi .len #[72] 3 [false] [x1]) w1 fun x9 w2 =>
 pN Tryz.prog (oBin .neq 3 (.tmp 7) (.tmp 9) x7 x9) w2 fun x10 w3 =>
 pIf x10
 (Q (.bool false) w3)
 (pN Tryz.prog (oBi .len #[72] 3 [false] [x0]) w3 fun x12 w4 =>
 ∃ (L4 : Value → World → Prop) (m4 : Value → World → Nat),
 L4 (.int .i64 0) w4 ∧
 ∀ (_k4 : Env) (v13l4 : Value) (w5 : World), L4 v13l4 w5 →
 pN Tryz.prog (oBin .lss 3 (.tmp 13) (.tmp 12) v13l4 x12) w5 fun x14 w6 =>
 pIf x14
 (pDr w6 fun w7 =>
 pA Tryz.prog (oIdx 72 x0 v13l4) fun x18 =>
 pL Tryz.prog (oLoad 9 x18) w7 fun x19 =>
 pA Tryz.prog (oIdx 72 x1 v13l4) fun x22 =>
 pL Tryz.prog (oLoad 9 x22) w7 fun x23 =>
 pA Tryz.prog (oBin .neq 9 (.tmp 19) (.tmp 23) x19 x23) fun x24 =>
 pIf x24
 (Q (.bool false) w7)
 (pN Tryz.prog (oBin .add 3 (.tmp 13) (.const (.int .i64 1)) v13l4 (.int .i64 1)) w7 fun x25 w8 =>
 (L4 x25 w8 ∧ m4 x25 w8 < m4 v13l4 w5)))
 (Q (.bool true) w6))
theorem pithlaw36_sameNames.calls [Pan] {x0 x1 : Value} {w : World} {Q : Value → World → Prop} (h : pithlaw36_sameNames.F x0 x1 w Q) : Calls Tryz.prog 33 #[x0, x1] w (retP Q) := calls_lift mixed pithlaw36_sameNames.H [x0, x1] Tryz.func33 (by kernel_rfl) (by kernel_rfl) h

def pithlaw36_pieces.H : Hints := { cut := fun  | _ => none, loop := fun | 5 => ([7, 8, 19], 4398045988240) | _ => ([], 0), order := fun  | _ => [] }
def pithlaw36_pieces.F [Pan] (x0 x1 : Value) (w : World) (Q : Value → World → Prop) : Prop :=
 pN Tryz.prog (oBox 27 x1) w fun x3 w1 =>
 pN Tryz.prog (oLoad 27 x3) w1 fun x13 w2 =>
 pN Tryz.prog (oCall 63 [x0, x13]) w2 fun x14 w3 =>
 pN Tryz.prog (oExt x14 0) w3 fun x15 w4 =>
 pN Tryz.prog (oExt x14 1) w4 fun _ w5 =>
 pN Tryz.prog (oBi .len #[46] 3 [false] [x15]) w5 fun x18 w6 =>
 ∃ (L5 : Value → Value → Value → World → Prop) (m5 : Value → Value → Value → World → Nat),
 L5 (.slice none 0 0) (.int .i64 0) (.int .i64 0) w6 ∧
 ∀ (_k5 : Env) (l7l5 : Value) (from8l5 : Value) (v19l5 : Value) (w7 : World), L5 l7l5 from8l5 v19l5 w7 →
 pN Tryz.prog (oBin .lss 3 (.tmp 19) (.tmp 18) v19l5 x18) w7 fun x20 w8 =>
 pIf x20
 (pN Tryz.prog (oIdx 46 x15 v19l5) w8 fun x21 w9 =>
 pN Tryz.prog (oLoad 3 x21) w9 fun x22 w10 =>
 pN Tryz.prog (oBin .lss 3 (.tmp 23) (.tmp 24) x22 from8l5) w10 fun x25 w11 =>
 pGd (gB x25 false) (pN Tryz.prog (oMv x22) w11) w11 fun x27 w12 =>
 pGd (gB x25 false) (pN Tryz.prog (oMv x0) w12) w12 fun x28 w13 =>
 pGd (gB x25 false) (pN Tryz.prog (oBi .len #[47] 3 [false] [x28]) w13) w13 fun x29 w14 =>
 pGd (gB x25 false) (pN Tryz.prog (oBin .gtr 3 (.tmp 27) (.tmp 29) x27 x29) w14) w14 fun x30 w15 =>
 pN Tryz.prog (oPick x25 (.bool true) x30) w15 fun x31 w16 =>
 pIf x31
 (Q (.slice none 0 0) w16)
 (pN Tryz.prog (oSl 47 x0 (some from8l5) (some x22) none) w16 fun x36 w17 =>
 pN Tryz.prog (oConv 47 9 x36) w17 fun x37 w18 =>
 pN Tryz.prog (oBs 72 1 [(0, x37)]) w18 fun x38 w19 =>
 pN Tryz.prog (oBi .append #[72, 72] 72 [false, false] [l7l5, x38]) w19 fun x39 w20 =>
 pN Tryz.prog (oBin .add 3 (.tmp 19) (.const (.int .i64 1)) v19l5 (.int .i64 1)) w20 fun x41 w21 =>
 (L5 x39 x22 x41 w21 ∧ m5 x39 x22 x41 w21 < m5 l7l5 from8l5 v19l5 w7)))
 (Q l7l5 w8)
theorem pithlaw36_pieces.calls [Pan] {x0 x1 : Value} {w : World} {Q : Value → World → Prop} (h : pithlaw36_pieces.F x0 x1 w Q) : Calls Tryz.prog 50 #[x0, x1] w (retP Q) := calls_lift mixed pithlaw36_pieces.H [x0, x1] Tryz.func50 (by kernel_rfl) (by kernel_rfl) h

def pithlaw36_listed.H : Hints := { cut := fun | 18 => some ([7], 18889465368528627446912) | 20 => some ([7], 38685626227668133523502720) | _ => none, loop := fun | 4 => ([7, 24], 77371252455336267164432000) | 13 => ([7, 62], 18884854245460153479296) | _ => ([], 0), order := fun | 7 => [(0, 0), (1, 1), (2, 3), (4, 7), (5, 23), (3, 55), (6, 63), (7, 127)] | 8 => [(0, 0), (1, 1), (2, 3), (3, 7), (5, 15), (6, 47), (4, 111), (7, 127), (8, 255)] | 19 => [(0, 0), (1, 1), (2, 3), (3, 7), (5, 15), (6, 47), (4, 111), (7, 127), (8, 255)] | _ => [] }
def pithlaw36_listed.F [Pan] (x0 x1 : Value) (w : World) (Q : Value → World → Prop) : Prop :=
 pN Tryz.prog (oBox 27 x1) w fun x3 w1 =>
 pN Tryz.prog (oCall 21 [x0]) w1 fun x16 w2 =>
 pN Tryz.prog (oExt x16 0) w2 fun x17 w3 =>
 pN Tryz.prog (oExt x16 1) w3 fun _ w4 =>
 pN Tryz.prog (oBi .len #[30] 3 [false] [x17]) w4 fun x20 w5 =>
 pN Tryz.prog (oCall 91 [(.slice none 0 0), x20]) w5 fun x21 w6 =>
 pN Tryz.prog (oBi .len #[30] 3 [false] [x17]) w6 fun x23 w7 =>
 ∃ (L4 : Value → Value → World → Prop) (m4 : Value → Value → World → Nat),
 L4 x21 (.int .i64 0) w7 ∧
 ∀ (_k4 : Env) (b7l4 : Value) (v24l4 : Value) (w8 : World), L4 b7l4 v24l4 w8 →
 pN Tryz.prog (oBin .lss 3 (.tmp 24) (.tmp 23) v24l4 x23) w8 fun x25 w9 =>
 pIf x25
 (∃ I20 : Value → World → Prop,
 (pN Tryz.prog (oIdx 30 x17 v24l4) w9 fun x26 w10 =>
 pN Tryz.prog (oLoad 49 x26) w10 fun x27 w11 =>
 pN Tryz.prog (oAlloc 49) w11 fun x9 w12 =>
 pN Tryz.prog (oStore 49 x9 x27) w12 fun _ w13 =>
 pN Tryz.prog (oFld 49 x9 2) w13 fun x29 w14 =>
 pN Tryz.prog (oLoad 3 x29) w14 fun x30 w15 =>
 pN Tryz.prog (oConv 3 5 x30) w15 fun x31 w16 =>
 pN Tryz.prog (oBs 47 1 [(0, x31)]) w16 fun x32 w17 =>
 pN Tryz.prog (oBi .append #[47, 47] 47 [false, false] [b7l4, x32]) w17 fun x33 w18 =>
 pDr w18 fun w19 =>
 pA Tryz.prog (oFld 49 x9 3) fun x35 =>
 pL Tryz.prog (oLoad 3 x35) w19 fun x36 =>
 pA Tryz.prog (oFld 49 x9 4) fun x38 =>
 pL Tryz.prog (oLoad 3 x38) w19 fun x39 =>
 pN Tryz.prog (oCall 91 [x33, x36]) w19 fun x37 w20 =>
 ((Sem.run Tryz.prog (oLoad 3 x38) w20 = .ok (.value x39) w20) ∧ True) ∧ (pN Tryz.prog (oCall 91 [x37, x39]) w20 fun x40 w21 =>
 (True) ∧ (pDr w21 fun w22 =>
 pA Tryz.prog (oFld 49 x9 0) fun x42 =>
 pL Tryz.prog (oLoad 9 x42) w22 fun x43 =>
 pA Tryz.prog (oBi .len #[9] 3 [false] [x43]) fun x44 =>
 pA Tryz.prog (oFld 49 x9 0) fun x46 =>
 pL Tryz.prog (oLoad 9 x46) w22 fun x47 =>
 pN Tryz.prog (oCall 91 [x40, x44]) w22 fun x45 w23 =>
 ((Sem.run Tryz.prog (oLoad 9 x46) w23 = .ok (.value x47) w23) ∧ True) ∧ (pN Tryz.prog (oBi .append #[47, 9] 47 [false, false] [x45, x47]) w23 fun x48 w24 =>
 (True) ∧ (∃ I18 : Value → World → Prop,
 (pN Tryz.prog (oFld 49 x9 2) w24 fun x49 w25 =>
 pN Tryz.prog (oLoad 3 x49) w25 fun x50 w26 =>
 pN Tryz.prog (oBin .eql 3 (.tmp 50) (.const (.int .i64 0)) x50 (.int .i64 0)) w26 fun x51 w27 =>
 pIf x51
 (pN Tryz.prog (oFld 49 x9 5) w27 fun x52 w28 =>
 pN Tryz.prog (oLoad 47 x52) w28 fun x53 w29 =>
 pN Tryz.prog (oLoad 27 x3) w29 fun x54 w30 =>
 pN Tryz.prog (oCall 50 [x53, x54]) w30 fun x55 w31 =>
 pN Tryz.prog (oBi .len #[72] 3 [false] [x55]) w31 fun x58 w32 =>
 pN Tryz.prog (oCall 91 [x48, x58]) w32 fun x59 w33 =>
 pN Tryz.prog (oBi .len #[72] 3 [false] [x55]) w33 fun x61 w34 =>
 ∃ (L13 : Value → Value → World → Prop) (m13 : Value → Value → World → Nat),
 L13 x59 (.int .i64 0) w34 ∧
 ∀ (_k13 : Env) (b7l13 : Value) (v62l13 : Value) (w35 : World), L13 b7l13 v62l13 w35 →
 pN Tryz.prog (oBin .lss 3 (.tmp 62) (.tmp 61) v62l13 x61) w35 fun x63 w36 =>
 pIf x63
 (pN Tryz.prog (oIdx 72 x55 v62l13) w36 fun x64 w37 =>
 pN Tryz.prog (oLoad 9 x64) w37 fun x65 w38 =>
 pN Tryz.prog (oConv 9 47 x65) w38 fun x67 w39 =>
 pN Tryz.prog (oBs 71 1 [(0, x67)]) w39 fun x68 w40 =>
 pN Tryz.prog (oCall 52 [x68]) w40 fun x69 w41 =>
 pN Tryz.prog (oAlloc 57) w41 fun x13 w42 =>
 pN Tryz.prog (oStore 57 x13 x69) w42 fun _ w43 =>
 pN Tryz.prog (oSl 57 x13 none none none) w43 fun x71 w44 =>
 pN Tryz.prog (oBi .append #[47, 47] 47 [false, false] [b7l13, x71]) w44 fun x72 w45 =>
 pN Tryz.prog (oBin .add 3 (.tmp 62) (.const (.int .i64 1)) v62l13 (.int .i64 1)) w45 fun x73 w46 =>
 (L13 x72 x73 w46 ∧ m13 x72 x73 w46 < m13 b7l13 v62l13 w35))
 (I18 b7l13 w36))
 (I18 x48 w27)) ∧
 ∀ (_j18 : Env) (b7c18 : Value) (w47 : World), I18 b7c18 w47 →
 pN Tryz.prog (oFld 49 x9 2) w47 fun x74 w48 =>
 pN Tryz.prog (oLoad 3 x74) w48 fun x75 w49 =>
 pN Tryz.prog (oBin .eql 3 (.tmp 75) (.const (.int .i64 2)) x75 (.int .i64 2)) w49 fun x76 w50 =>
 pIf x76
 (pDr w50 fun w51 =>
 pA Tryz.prog (oFld 49 x9 1) fun x78 =>
 pL Tryz.prog (oLoad 9 x78) w51 fun x79 =>
 pA Tryz.prog (oBi .len #[9] 3 [false] [x79]) fun x80 =>
 pA Tryz.prog (oFld 49 x9 1) fun x82 =>
 pL Tryz.prog (oLoad 9 x82) w51 fun x83 =>
 pN Tryz.prog (oCall 91 [b7c18, x80]) w51 fun x81 w52 =>
 ((Sem.run Tryz.prog (oLoad 9 x82) w52 = .ok (.value x83) w52) ∧ True) ∧ (pN Tryz.prog (oBi .append #[47, 9] 47 [false, false] [x81, x83]) w52 fun x84 w53 =>
 (True) ∧ (I20 x84 w53)))
 (I20 b7c18 w50)))))) ∧
 ∀ (_j20 : Env) (b7c20 : Value) (w54 : World), I20 b7c20 w54 →
 pN Tryz.prog (oBin .add 3 (.tmp 24) (.const (.int .i64 1)) v24l4 (.int .i64 1)) w54 fun x85 w55 =>
 (L4 b7c20 x85 w55 ∧ m4 b7c20 x85 w55 < m4 b7l4 v24l4 w8))
 (Q b7l4 w9)
theorem pithlaw36_listed.calls [Pan] {x0 x1 : Value} {w : World} {Q : Value → World → Prop} (h : pithlaw36_listed.F x0 x1 w Q) : Calls Tryz.prog 51 #[x0, x1] w (retP Q) := calls_lift mixed pithlaw36_listed.H [x0, x1] Tryz.func51 (by kernel_rfl) (by kernel_rfl) h

def pithlaw36_usual.F [Pan]  (w : World) (Q : Value → World → Prop) : Prop :=
 pN Tryz.prog (oBuild 25 [(0, (.int .i64 1)), (3, (.int .i64 4096)), (4, (.int .i64 65536))]) w fun x4 w1 =>
 pN Tryz.prog (oBuild 27 [(0, (.int .i64 64)), (1, (.int .i64 64))]) w1 fun x5 w2 =>
 pN Tryz.prog (oBuild 29 [(0, x4), (1, x5)]) w2 fun x6 w3 =>
 pN Tryz.prog (oCall 8 [x6]) w3 fun x7 w4 =>
 pN Tryz.prog (oExt x7 0) w4 fun x8 w5 =>
 pN Tryz.prog (oExt x7 1) w5 fun _ w6 =>
 Q x8 w6
theorem pithlaw36_usual.calls [Pan]  {w : World} {Q : Value → World → Prop} (h : pithlaw36_usual.F  w Q) : Calls Tryz.prog 53 #[] w (retP Q) := calls_lift mixed .z [] Tryz.func53 (by kernel_rfl) (by kernel_rfl) h

def pithlaw36_number.F [Pan] (x0 x1 : Value) (w : World) (Q : Value → World → Prop) : Prop :=
 pN Tryz.prog (oConv 3 212 x1) w fun x9 w1 =>
 pN Tryz.prog (oCall 124 [x9]) w1 fun x10 w2 =>
 pN Tryz.prog (oExt x10 0) w2 fun x11 w3 =>
 pN Tryz.prog (oExt x10 1) w3 fun _ w4 =>
 pN Tryz.prog (oBi .append #[47, 47] 47 [false, false] [x0, x11]) w4 fun x15 w5 =>
 Q x15 w5
theorem pithlaw36_number.calls [Pan] {x0 x1 : Value} {w : World} {Q : Value → World → Prop} (h : pithlaw36_number.F x0 x1 w Q) : Calls Tryz.prog 91 #[x0, x1] w (retP Q) := calls_lift mixed .z [x0, x1] Tryz.func91 (by kernel_rfl) (by kernel_rfl) h

end Go.Proofs.YtikmogfhhggafaaGreatDoor

namespace Go.Proofs.YtikmogfhhggafaaGreatDoor
open Go
theorem map_names_perm {l m : List T_api_Item} (h : l.Perm m) : (l.map (·.Name)).Nodup ↔ (m.map (·.Name)).Nodup := (h.map _).nodup_iff
theorem sort_nodup (l : List T_api_Item) : S.twice (S.sort l) = false ↔ (l.map (·.Name)).Nodup := by
  constructor
  · intro h
    exact (map_names_perm (S.sort_perm l)).1 (S.rise_nodup (S.rise_of (S.sort_up l) h))
  · intro h
    exact S.twice_nodup ((map_names_perm (S.sort_perm l)).2 h)
theorem rise_sort {G l : List T_api_Item} (hp : G.Perm l) (hr : S.Rise G) : G = S.sort l ∧ S.twice (S.sort l) = false := by
  have hu : U.Up S.before G := by
    have := hr
    exact List.Pairwise.imp (fun {a b} h => by
      cases h2 : S.before b a with
      | false => rfl
      | true => have := S.before_ord.tr _ _ _ h h2; rw [S.before_ord.irr] at this; cases this) this
  obtain ⟨h1, h2⟩ := S.sort_of hp hu
  have h3 := S.not_twice hr
  exact ⟨h2 h3, by rw [← h1]; exact h3⟩
theorem rise_ins {P R : List T_api_Item} {x : T_api_Item} (h : S.Rise (P ++ R)) (hr : ∀ r ∈ R, S.before x r = true) (hp : ∀ p, P.getLast? = some p → S.before p x = true) : S.Rise (P ++ x :: R) := by
  obtain ⟨h1, h2, h3⟩ := List.pairwise_append.1 h
  refine List.pairwise_append.2 ⟨h1, List.pairwise_cons.2 ⟨hr, h2⟩, fun a ha b hb => ?_⟩
  have hax : S.before a x = true := by
    by_cases hP : P = []
    · subst hP; cases ha
    · obtain ⟨P0, p, rfl⟩ := U.last_cut hP
      have hpx := hp p (by rw [List.getLast?_concat])
      rcases List.mem_append.1 ha with ha | ha
      · exact S.before_ord.tr _ _ _ ((List.pairwise_append.1 h1).2.2 a ha p List.mem_cons_self) hpx
      · obtain rfl : a = p := by simpa using ha
        exact hpx
  rcases List.mem_cons.1 hb with rfl | hb
  · exact hax
  · exact h3 a ha b hb
theorem same_twice {its C0 : List T_api_Item} {k : Nat} {x y : T_api_Item} (hx : its[k]? = some x) (hp : C0.Perm (its.take k)) (hy : y ∈ C0) (h : x.Name = y.Name) : S.twice (S.sort its) = true := by
  cases ht : S.twice (S.sort its) with
  | true => rfl
  | false =>
    have h1 := (sort_nodup its).1 ht
    have h2 : its = its.take (k + 1) ++ its.drop (k + 1) := (List.take_append_drop _ _).symm
    rw [h2, List.map_append, List.take_add_one, hx, List.map_append] at h1
    have h3 := (List.nodup_append.1 (List.nodup_append.1 h1).1).2.2 y.Name (List.mem_map_of_mem (hp.mem_iff.1 hy)) x.Name (by simp)
    exact absurd h.symm h3
attribute [local irreducible] oMv oV oU oCall oCallV oBi oBin oUn oLoad oStore oNil oFld oField oIdx oIndex oPick oAlloc oBox oBuild oBs oConv oMk oSl oExt oFn oIface oMap oLook oMapUp oRange oNext oEntry oInv oAssert oPanic oRes pN pA pL pDr pIf gA pGd Calls H.sum C.put
section
variable [Pan] {E w W : World} {K Q : Value → World → Prop} {LL M N N' : List HA} {c : T_api_Config} {db : Nat} {d : D.T} {its : List T_api_Item} {s sl : Sl}

theorem Lnum_ok (v : Int) (hQ : Q (.int .i64 v) w) : Calls Tryz.prog 12 #[.int .i64 v] w (retP Q) := by
  refine pithlaw36_num.calls ?_
  unfold pithlaw36_num.F
  exact hQ

abbrev kutV (k : T_api_Cuts) : C.K := ⟨k.Least, k.Most, k.Bits⟩
theorem begin_in (o : T_pithlaw36_Setup) (hc : D.okC o.C) (hk : (kutV o.f_K).legal) (hS : Sat E w M) (hQ : ∀ b w, Sat E w (Dep o.C b (D.new (kutV o.f_K)) :: M) → Q (.tuple #[.pointer (some ⟨b, 0, none⟩), .bool true]) w) :
    Calls Tryz.prog 8 #[.agg o.enc.toArray] w (retP Q) := by
  refine pithlaw36_begin.calls ?_
  unfold pithlaw36_begin.F
  refine pN_bx (z := o.enc) hS rfl ?_
  clear hS
  intro ob w hS
  repeat' (first | refine pN_la_at (n := 8) hS o.C.enc rfl rfl ?_ | refine pN_la_at (n := 3) hS [.int .i64 o.f_K.Least, .int .i64 o.f_K.Most, .int .i64 o.f_K.Bits] rfl rfl ?_ | (refine pc_depot_New (DNew_in (c := o.C) (k := kutV o.f_K) hc hk hS ?_); clear hS; intro b w hS) | (refine pc_pithlaw36_num (Lnum_ok _ ?_)) | (refine pN_eql_s ?_ ?_ <;> intro hc <;> try (exfalso; first | omega | exact hc rfl | exact hc (by assumption) | exact absurd hc (by assumption))) | refine pGd_go (by rfl) ?_ | refine pGd_no (by rfl) ?_ | refine pN_v (hk := ?_) | fail)
  exact hQ b _ hS.to
theorem begin_no (o : T_pithlaw36_Setup) (hn : ¬ (D.okC o.C ∧ (kutV o.f_K).legal)) (hS : Sat E w M) (hQ : ∀ w, Sat E w M → Q (.tuple #[.pointer none, .bool true]) w) :
    Calls Tryz.prog 8 #[.agg o.enc.toArray] w (retP Q) := by
  refine pithlaw36_begin.calls ?_
  unfold pithlaw36_begin.F
  refine pN_bx (z := o.enc) hS rfl ?_
  clear hS
  intro ob w hS
  repeat' (first | refine pN_la_at (n := 8) hS o.C.enc rfl rfl ?_ | refine pN_la_at (n := 3) hS [.int .i64 o.f_K.Least, .int .i64 o.f_K.Most, .int .i64 o.f_K.Bits] rfl rfl ?_ | (refine pc_depot_New (DNew_no (c := o.C) (k := kutV o.f_K) hn hS ?_); clear hS; intro w hS) | (refine pc_pithlaw36_num (Lnum_ok _ ?_)) | (refine pN_eql_s ?_ ?_ <;> intro hc <;> try (exfalso; first | omega | exact hc rfl | exact hc (by assumption) | exact absurd hc (by assumption))) | refine pGd_go (by rfl) ?_ | refine pN_v (hk := ?_) | fail)
  exact hQ _ hS.to

theorem lnum_ok {l : List UInt8} (hG : GloS W) (v : Int) (h0 : 0 ≤ v) (h1 : v < 9223372036854775808) (hS : Sat E w LL) [hg : Has (old W) LL N'] [hf : Fnd (rows cd_uint8 s) LL l M] (hb : l.length ≤ 140737488355319)
    (hQ : ∀ s2 w, Sat E w (rows cd_uint8 s2 (l ++ C.put v.toNat) :: M) → Q (.slice s2.a (l ++ C.put v.toNat).length s2.c) w) :
    Calls Tryz.prog 91 #[.slice s.a l.length s.c, .int .i64 v] w (retP Q) := by
  refine pithlaw36_number.calls ?_
  unfold pithlaw36_number.F
  obtain ⟨v, rfl⟩ := Int.eq_ofNat_of_zero_le h0
  rw [Int.toNat_natCast] at hQ
  have hp := L.putl v (by omega)
  repeat' (first | (refine pc_varint_Put (VPut_ok hG v (by omega) hS ?_); clear hS; intro s1 w hS) | (refine pN_app hS (by first | rfl | omega | simpa only [go_sem] using True.intro | (simp only [go_sem]; omega)) (by first | rfl | omega | simpa only [go_sem] using True.intro | (simp only [go_sem]; omega)) (by first | omega | (simp only [go_sem]; omega)) ?_; clear hS; intro s w hS) | refine pN_v (hk := ?_) | fail)
  exact hQ _ _ hS.to

set_option maxHeartbeats 2000000 in
theorem lpieces_ok {l : List UInt8} {k : C.K} (hk : k.legal) (hS : Sat E w M) [hr : Rds cd_uint8 M s l] (hl : l.length ≤ 1099511627776)
    (hQ : ∀ s2 w, Sat E w (rows cd_string s2 (C.pieces k l) :: M) → Q (.slice s2.a (C.pieces k l).length s2.c) w) :
    Calls Tryz.prog 50 #[.slice s.a l.length s.c, .agg #[.int .i64 k.least, .int .i64 k.most, .int .i64 k.bits]] w (retP Q) := by
  refine pithlaw36_pieces.calls ?_
  unfold pithlaw36_pieces.F
  refine pN_bx (z := [.int .i64 k.least, .int .i64 k.most, .int .i64 k.bits]) hS rfl ?_
  clear hS
  intro kb w hS
  have hil := endsI_len k l
  have hpl := C.pieces_len k l
  have hget := fun {j e} => @endsI_get k l j e
  repeat' (first | (refine pc_cdc_Cut (Calls.up (Cut_ok (s := s) (l := l) hk hS hl ?_)); clear hS; intro se w hS) | refine pN_la hS (by rfl) ?_ | refine pN_v (hk := ?_) | fail)
  rw [← hil]
  generalize endsI k l = I at *
  skip
  refine ⟨fun v v' v'' w => ∃ (p : Nat) (pre : List (List UInt8)) (so : Sl), v = .slice so.a pre.length so.c ∧ v' = .int .i64 p ∧ v'' = .int .i64 pre.length ∧ p ≤ l.length ∧ C.pieces k l = pre ++ C.pieces k (l.drop p) ∧ pre.flatten.length = p ∧ Sat E w (rows cd_string so pre :: rows cd_int se I :: M), fun _ _ v _ => I.length - (RowKit.intOf v).toNat,
    ⟨0, [], ⟨none, 0⟩, rfl, rfl, rfl, by omega, by rw [List.drop_zero]; rfl, rfl, ?_⟩, ?_⟩
  · have h8 : Sat E w (rows cd_string ⟨none, 0⟩ [] :: _) := hS.nil cd_string.e cd_string.size
    exact h8.to
  clear hS
  rintro _ _ _ _ w ⟨p, pre, so, rfl, rfl, rfl, hp, hpc, hpf, hS⟩
  have hcl := congrArg List.length hpc
  rw [List.length_append] at hcl
  by_cases hlt : pre.length < I.length
  · have hne : l.drop p ≠ [] := fun h => by
      rw [h, C.pieces_nil, List.length_nil] at hcl
      omega
    rw [C.pieces_cons k hne] at hpc
    have hf1 := C.fst_pos k hne
    have hf2 := C.fst_le k (l.drop p)
    have hdl : (l.drop p).length = l.length - p := List.length_drop
    rw [hdl] at hf2
    have hdd : (l.drop p).drop (C.fst k (l.drop p)) = l.drop (p + C.fst k (l.drop p)) := by rw [List.drop_drop]
    rw [hdd] at hpc
    obtain ⟨q, hq⟩ : ∃ q, q = (l.drop p).take (C.fst k (l.drop p)) := ⟨_, rfl⟩
    rw [← hq] at hpc
    have htl : q.length = C.fst k (l.drop p) := by rw [hq, List.length_take, hdl]; omega
    rw [← htl] at hpc hq hf1 hf2
    clear htl
    have hend := hget (j := pre.length) (e := p + q.length) (by rw [hpc, C.ends_at, hpf, Nat.zero_add])
    have hsub : (l.drop p).take (p + q.length - p) = q := by rw [Nat.add_sub_cancel_left]; exact hq.symm
    have e1 : p + q.length - p = q.length := by omega
    repeat' (first | (refine pN_sl2 (C := cd_uint8) (s := s) (l := l) hS p (p + q.length) rfl (by first | rfl | omega) rfl (by omega) (by omega) ?_; intro s' hp'; rw [hsub] at hp'; rw [e1]) | ((first | refine pN_lss_s ?_ ?_ | refine pN_gtr_s ?_ ?_) <;> intro hc <;> try (exfalso; omega)) | refine pIf_t ?_ | refine pIf_f ?_ | refine pGd_go (by rfl) ?_ | refine pN_ld1 ha hS ?_ | refine pN_ixk hS _ (by first | rfl | (exact (Int.toNat_of_nonneg (by omega)).symm)) (by first | rfl | omega | simpa only [go_sem] using True.intro | (simp only [go_sem]; omega)) (by assumption) fun a ha hel => ?_ | refine pN_v (hk := ?_) | fail)
    haveI hrs : Rds cd_uint8 M s' q := hp'.rd _ inferInstance
    repeat' (first | (refine pN_b1 hS (by rfl) (by decide) ?_; clear hS; intro s w hS) | (refine pN_app hS (by first | rfl | omega | simpa only [go_sem] using True.intro | (simp only [go_sem]; omega)) (by first | rfl | omega | simpa only [go_sem] using True.intro | (simp only [go_sem]; omega)) (by first | omega | (simp only [go_sem]; omega)) ?_; clear hS; intro s w hS) | refine pN_st hS (by first | rfl | omega | simpa only [go_sem] using True.intro | (simp only [go_sem]; omega)) ?_ | refine pN_v (hk := ?_) | fail)
    refine ⟨⟨p + q.length, pre ++ [q], s, by first | rfl | rw [List.length_append], rfl, by first | rfl | (rw [List.length_append]; rfl), by omega, by rw [List.append_assoc]; exact hpc, by simp [hpf], hS.to⟩, ?_⟩
    simp [RowKit.intOf] <;> omega
  · have hnil : l.drop p = [] := by
      by_cases h : l.drop p = []
      · exact h
      · have := C.pieces_cons k h
        rw [this, List.length_cons] at hcl
        omega
    rw [hnil, C.pieces_nil, List.append_nil] at hpc
    rw [hpc] at hQ
    repeat' (first | (refine pN_lss_s ?_ ?_ <;> intro hc <;> try (exfalso; omega)) | refine pIf_f ?_ | fail)
    exact hQ _ _ hS.to

set_option maxHeartbeats 4000000 in
theorem lsorted_ok (hS : Sat E w M) [hr : Rds cd_api_Item M sl its] (hl : its.length ≤ 1099511627776)
    (hyes : S.twice (S.sort its) = false → ∀ s2 w, Sat E w (rows cd_api_Item s2 (S.sort its) :: M) → Q (.tuple #[.slice s2.a (S.sort its).length s2.c, .bool true]) w)
    (hno : S.twice (S.sort its) = true → ∀ w, Sat E w M → Q (.tuple #[.slice none 0 0, .bool false]) w) :
    Calls Tryz.prog 21 #[.slice sl.a its.length sl.c] w (retP Q) := by
  refine pithlaw36_sorted.calls ?_
  unfold pithlaw36_sorted.F
  repeat' (first | refine pN_v (hk := ?_) | fail)
  refine ⟨fun v v' w => ∃ (k : Nat) (C0 : List T_api_Item) (so : Sl), v = .slice so.a C0.length so.c ∧ v' = .int .i64 k ∧ k ≤ its.length ∧ C0.Perm (its.take k) ∧ S.Rise C0 ∧ Sat E w (rows cd_api_Item so C0 :: M), fun _ v _ => its.length - (RowKit.intOf v).toNat,
    ⟨0, [], ⟨none, 0⟩, rfl, rfl, by omega, by rw [List.take_zero], List.Pairwise.nil, hS.nil cd_api_Item.e cd_api_Item.size⟩, ?_⟩
  clear hS
  rintro _ _ _ w ⟨k, C0, so, rfl, rfl, hk, hp, hri, hS⟩
  have hCl := hp.length_eq
  rw [List.length_take] at hCl
  by_cases hlt : k < its.length
  · obtain ⟨x, hx⟩ : ∃ x, its[k]? = some x := ⟨its[k], by simp [hlt]⟩
    have hCk : C0.length = k := by omega
    repeat' (first | (refine pN_lss_s ?_ ?_ <;> intro hc <;> try (exfalso; omega)) | refine pIf_t ?_ | refine pN_ld_at ha hS (by rfl) ?_ | refine pN_la hS (by rfl) ?_ | (refine pN_sa hS (by rfl) (by rfl) (by rfl) ?_; clear hS; intro w hS; try dsimp only at hS) | (refine pN_nz hS ?_; clear hS; intro a w hS) | refine pN_ixk hS _ (by first | rfl | (exact (Int.toNat_of_nonneg (by omega)).symm)) (by first | rfl | omega | simpa only [go_sem] using True.intro | (simp only [go_sem]; omega)) (by assumption) fun a ha hel => ?_ | (refine pN_b1 hS (by rfl) (by decide) ?_; clear hS; intro s w hS) | (refine pN_app hS (by first | rfl | omega | simpa only [go_sem] using True.intro | (simp only [go_sem]; omega)) (by first | rfl | omega | simpa only [go_sem] using True.intro | (simp only [go_sem]; omega)) (by first | omega | (simp only [go_sem]; omega)) ?_; clear hS; intro s w hS) | refine pN_v (hk := ?_) | fail)
    refine ⟨fun v w => ∃ P R : List T_api_Item, v = .int .i64 P.length ∧ P ++ R = C0 ∧ (∀ r ∈ R, S.before x r = true) ∧ Sat E w (rows cd_api_Item s (P ++ x :: R) :: M), fun v _ => (RowKit.intOf v).toNat,
      ⟨C0, [], by congr 1; omega, by rw [List.append_nil], fun r h => (by cases h), hS.to⟩, ?_⟩
    clear hS
    rintro _ _ w ⟨P, R, rfl, hPR, hrx, hS⟩
    have hPl := congrArg List.length hPR
    rw [List.length_append] at hPl
    have hfin : (∀ p, P.getLast? = some p → S.before p x = true) → (P ++ x :: R).Perm (its.take (k + 1)) ∧ S.Rise (P ++ x :: R) := fun h => by
      refine ⟨?_, rise_ins (by rw [hPR]; exact hri) hrx h⟩
      rw [List.take_add_one, hx]
      refine List.perm_middle.trans ?_
      rw [hPR]
      exact (hp.cons x).trans (List.perm_append_singleton x _).symm
    have hDl : (P ++ x :: R).length = (C0 ++ [x]).length := by simp only [List.length_append, List.length_cons, List.length_nil]; omega
    by_cases hP : P = []
    · subst hP
      obtain ⟨f1, f2⟩ := hfin (fun p h => by cases h)
      rw [← hDl]
      have hj0 : ((([] : List T_api_Item).length : Nat) : Int) = 0 := rfl
      rw [hj0]
      repeat' (first | (refine pA_gtr_s ?_ ?_ <;> intro hc <;> try (exfalso; omega)) | refine pIf_f ?_ | refine gA_no (by rfl) ?_ | (refine pDr_go hS ?_; clear hS; intro w hS) | refine pN_v (hk := ?_) | refine pA_v (hk := ?_) | fail)
      exact ⟨⟨k + 1, _, s, rfl, rfl, by omega, f1, f2, hS⟩, by simp [RowKit.intOf] <;> omega⟩
    · obtain ⟨P0, y, rfl⟩ := U.last_cut hP
      obtain ⟨q, hq⟩ : ∃ q, q = P0.length := ⟨_, rfl⟩
      have hj1 : (((P0 ++ [y]).length : Nat) : Int) = ((q + 1 : Nat) : Int) := by rw [List.length_append, List.length_singleton]; omega
      rw [hj1]
      have hD : (P0 ++ [y]) ++ x :: R = P0 ++ y :: (x :: R) := by simp
      rw [← hDl]
      rw [hD] at hS ⊢
      have g0 := U.get_mid P0 (x :: R) y
      have g1 := U.get_nb P0 R y x
      have hsw := U.swap_nb P0 R y x
      rw [← hq] at g0 g1 hsw
      have hlen : (P0 ++ y :: (x :: R)).length = C0.length + 1 := by rw [← hPR]; simp only [List.length_append, List.length_cons, List.length_nil]; omega
      have hqR : q + 1 + R.length = C0.length := by rw [← hPR]; simp only [List.length_append, List.length_cons, List.length_nil]; omega
      have hym : y ∈ C0 := by rw [← hPR]; simp
      obtain ⟨D, hDD⟩ : ∃ D, D = P0 ++ y :: (x :: R) := ⟨_, rfl⟩
      rw [← hDD] at hS g0 g1 hsw hlen hD ⊢
      obtain ⟨z, h4⟩ : ∃ z, (D.set (q + 1) y)[q]? = some z := ⟨(D.set (q + 1) y)[q]'(by rw [List.length_set]; omega), List.getElem?_eq_getElem _⟩
      by_cases hxy : x.Name = y.Name
      · have hle : (Op.bytesLess x.Name y.Name || x.Name == y.Name) = true := by rw [hxy]; simp
        repeat' (first | refine pA_ixk hS (q + 1) (by omega) (by omega) g1 fun ad ha hel => ?_ | refine pA_ixk hS q (by omega) (by omega) g0 fun ad ha hel => ?_ | (rw [pA_leq_l, hle]) | (refine pA_gtr_s ?_ ?_ <;> intro hc <;> try (exfalso; omega)) | (refine pA_eql_ss ?_ ?_ <;> intro hc <;> try (exfalso; first | omega | exact hc rfl | exact hc (by assumption) | exact absurd hc (by assumption))) | refine pIf_t ?_ | refine gA_go (by rfl) ?_ | refine pL_ld1 ha hS ?_ | refine pA_fa ha (by rfl) fun a ha => ?_ | (refine pDr_go hS ?_; clear hS; intro w hS) | refine pA_v (hk := ?_) | fail)
        exact hno (same_twice hx hp hym hxy) _ hS.to
      · cases hb : Op.bytesLess x.Name y.Name with
        | true =>
          have hle : (Op.bytesLess x.Name y.Name || x.Name == y.Name) = true := by rw [hb]; rfl
          repeat' (first | refine pA_ixk hS q (by omega) (by first | omega | rw [List.length_set]) h4 fun ad ha hel => ?_ | refine pA_ixk hS (q + 1) (by omega) (by omega) g1 fun ad ha hel => ?_ | refine pA_ixk hS q (by omega) (by omega) g0 fun ad ha hel => ?_ | (rw [pA_leq_l, hle]) | (refine pN_srn (x := y) hel hS (by rfl) (by rfl) (by omega) ?_; clear hS; intro w hS) | (refine pN_srn (x := x) hel hS (by rfl) (by rfl) (by rw [List.length_set]; omega) ?_; clear hS; intro w hS) | (refine pA_gtr_s ?_ ?_ <;> intro hc <;> try (exfalso; omega)) | (refine pA_eql_ss ?_ ?_ <;> intro hc <;> try (exfalso; first | omega | exact hc rfl | exact hc (by assumption) | exact absurd hc (by assumption))) | refine pIf_t ?_ | refine pIf_f ?_ | refine gA_go (by rfl) ?_ | refine pL_ld1 ha hS ?_ | refine pL_ld_at ha hS (by rfl) ?_ | refine pA_fa ha (by rfl) fun a ha => ?_ | (refine pDr_go hS ?_; clear hS; intro w hS) | refine ⟨trivial, ?_⟩ | refine pN_v (hk := ?_) | refine pA_v (hk := ?_) | fail)
          rw [hsw] at hS
          refine ⟨⟨P0, y :: R, by rw [← hq]; congr 1; omega, by rw [← hPR]; simp, fun r hr' => ?_, hS⟩, by simp [RowKit.intOf] <;> omega⟩
          rcases List.mem_cons.1 hr' with rfl | hr'
          · exact hb
          · exact hrx r hr'
        | false =>
          have hle : (Op.bytesLess x.Name y.Name || x.Name == y.Name) = false := by
            rw [hb, Bool.false_or]
            exact beq_eq_false_iff_ne.2 hxy
          have hyx : S.before y x = true := by
            cases h5 : Op.bytesLess y.Name x.Name with
            | true => exact h5
            | false => exact absurd (S.less_tri _ _ hb h5) hxy
          obtain ⟨f1, f2⟩ := hfin (fun p hp => by
            rw [List.getLast?_concat, Option.some.injEq] at hp
            subst hp
            exact hyx)
          rw [hD] at f1 f2
          repeat' (first | refine pA_ixk hS (q + 1) (by omega) (by omega) g1 fun ad ha hel => ?_ | refine pA_ixk hS q (by omega) (by omega) g0 fun ad ha hel => ?_ | (rw [pA_leq_l, hle]) | (refine pA_gtr_s ?_ ?_ <;> intro hc <;> try (exfalso; omega)) | refine pIf_f ?_ | refine gA_go (by rfl) ?_ | refine pL_ld1 ha hS ?_ | refine pA_fa ha (by rfl) fun a ha => ?_ | (refine pDr_go hS ?_; clear hS; intro w hS) | refine pN_v (hk := ?_) | refine pA_v (hk := ?_) | fail)
          exact ⟨⟨k + 1, _, s, rfl, rfl, by omega, f1, f2, hS⟩, by simp [RowKit.intOf] <;> omega⟩
  · obtain rfl : k = its.length := by omega
    rw [List.take_length] at hp
    obtain ⟨rfl, ht⟩ := rise_sort hp hri
    repeat' (first | (refine pN_lss_s ?_ ?_ <;> intro hc <;> try (exfalso; omega)) | refine pIf_f ?_ | fail)
    exact hyes ht _ _ hS
end
end Go.Proofs.YtikmogfhhggafaaGreatDoor

namespace Go.Proofs.YtikmogfhhggafaaGreatDoor
open Go
namespace S
def rightI (its : List It) : Int := if werr its ≠ 0 then werr its else if twice (sort its) = true then 9 else 0
def same (x y : It) : Bool := decide (x.Name = y.Name ∧ x.Link = y.Link ∧ x.Kind = y.Kind ∧ x.Mode = y.Mode ∧ x.Time = y.Time ∧ x.Data.2 = y.Data.2)
end S
attribute [local irreducible] oMv oV oU oCall oCallV oBi oBin oUn oLoad oStore oNil oFld oField oIdx oIndex oPick oAlloc oBox oBuild oBs oConv oMk oSl oExt oFn oIface oMap oLook oMapUp oRange oNext oEntry oInv oAssert oPanic oRes pN pA pL pDr pIf gA pGd Calls H.sum C.put
section
variable [Pan] {E w W : World} {K Q : Value → World → Prop} {LL M N N' : List HA} {c : T_api_Config} {db : Nat} {d : D.T} {its : List T_api_Item} {s sl : Sl}

theorem lright_ok (hS : Sat E w M) [hr : Rds cd_api_Item M sl its] (hd : ∀ x ∈ its, Rds cd_uint8 M x.Data.1 x.Data.2) (hb : ∀ x ∈ its, x.Name.length ≤ 1099511627776 ∧ x.Link.length ≤ 1099511627776) (hl : its.length ≤ 1099511627776)
    (hQ : ∀ w, Sat E w M → Q (.int .i64 (S.rightI its)) w) :
    Calls Tryz.prog 9 #[.slice sl.a its.length sl.c] w (retP Q) := by
  refine pithlaw36_right.calls ?_
  unfold pithlaw36_right.F
  repeat' (first | refine pN_v (hk := ?_) | fail)
  refine ⟨fun v w => ∃ k : Nat, v = .int .i64 k ∧ k ≤ its.length ∧ (∀ x ∈ its.take k, A.wrong x = 0) ∧ Sat E w M, fun v _ => its.length - (RowKit.intOf v).toNat, ⟨0, rfl, by omega, fun x hx => by simp at hx, hS⟩, ?_⟩
  clear hS
  rintro _ _ w ⟨k, rfl, hkl, hw, hS⟩
  by_cases hlt : k < its.length
  · obtain ⟨x, hx⟩ : ∃ x, its[k]? = some x := ⟨its[k], by simp [hlt]⟩
    have hm : x ∈ its := List.mem_of_getElem? hx
    haveI := hd x hm
    obtain ⟨b1, b2⟩ := hb x hm
    repeat' (first | (refine pN_lss_s ?_ ?_ <;> intro hc <;> try (exfalso; omega)) | refine pIf_t ?_ | refine pN_ld_at ha hS (by rfl) ?_ | refine pN_la hS (by rfl) ?_ | (refine pN_sa hS (by rfl) (by rfl) (by rfl) ?_; clear hS; intro w hS; try dsimp only at hS) | (refine pN_nz hS ?_; clear hS; intro a w hS) | refine pN_ixk hS _ (by first | rfl | (exact (Int.toNat_of_nonneg (by omega)).symm)) (by first | rfl | omega | simpa only [go_sem] using True.intro | (simp only [go_sem]; omega)) (by assumption) fun a ha hel => ?_ | fail)
    refine pc_tar_Put (Put_ok x (by omega) (by omega) hS (fun h0 w hS => ?_) fun h0 s1 w hS => ?_)
    · rw [S.rightI, S.werr_at hx hw h0, if_pos h0] at hQ
      generalize A.wrong x = e at *
      repeat' (first | (refine pc_pithlaw36_num (Lnum_ok _ ?_)) | (refine pN_neq_s ?_ ?_ <;> intro hc <;> try (exfalso; first | omega | exact hc rfl | exact hc (by assumption) | exact absurd hc (by assumption))) | refine pIf_t ?_ | refine pN_v (hk := ?_) | fail)
      exact hQ _ hS.to
    · repeat' (first | (refine pc_pithlaw36_num (Lnum_ok _ ?_)) | (refine pN_neq_s ?_ ?_ <;> intro hc <;> try (exfalso; first | omega | exact hc rfl | exact hc (by assumption) | exact absurd hc (by assumption))) | refine pIf_f ?_ | refine pN_v (hk := ?_) | fail)
      refine ⟨⟨k + 1, rfl, by omega, fun y hy => ?_, hS.to⟩, by simp [RowKit.intOf] <;> omega⟩
      rw [List.take_add_one, hx] at hy
      rcases List.mem_append.1 hy with hy | hy
      · exact hw y hy
      · obtain rfl : y = x := by simpa using hy
        exact h0
  · obtain rfl : k = its.length := by omega
    rw [List.take_length] at hw
    rw [S.rightI, S.werr_0 hw, if_neg (fun h => h rfl)] at hQ
    repeat' (first | (refine pN_lss_s ?_ ?_ <;> intro hc <;> try (exfalso; omega)) | refine pIf_f ?_ | fail)
    refine pc_pithlaw36_sorted (lsorted_ok hS hl (fun ht s2 w hS => ?_) fun ht w hS => ?_)
    · rw [ht, if_neg (by decide)] at hQ
      repeat' (first | refine pIf_f ?_ | refine pN_v (hk := ?_) | fail)
      exact hQ _ hS.to
    · rw [ht, if_pos rfl] at hQ
      repeat' (first | refine pIf_t ?_ | refine pN_v (hk := ?_) | fail)
      exact hQ _ hS

theorem lsame_ok (x y : T_api_Item) (hS : Sat E w M) [hx : Rds cd_uint8 M x.Data.1 x.Data.2] [hy : Rds cd_uint8 M y.Data.1 y.Data.2] (hQ : ∀ w, Sat E w M → Q (.bool (S.same x y)) w) :
    Calls Tryz.prog 15 #[.agg x.enc.toArray, .agg y.enc.toArray] w (retP Q) := by
  refine pithlaw36_same.calls ?_
  unfold pithlaw36_same.F
  have hal : S.same x y = decide (x.Name = y.Name ∧ x.Link = y.Link ∧ x.Kind = y.Kind ∧ x.Mode = y.Mode ∧ x.Time = y.Time ∧ x.Data.2 = y.Data.2) := rfl
  rw [hal] at hQ
  clear hal
  refine pN_bx (z := x.enc) hS rfl ?_
  clear hS
  intro x2 w hS
  refine pN_bx (z := y.enc) hS rfl ?_
  clear hS
  intro x3 w hS
  repeat' (first | ((first | refine pN_eql_s ?_ ?_ | refine pN_eql_ss ?_ ?_) <;> intro hc <;> try (exfalso; first | omega | exact hc rfl | exact hc (by assumption) | exact absurd hc (by assumption))) | refine pGd_go (by rfl) ?_ | refine pGd_no (by rfl) ?_ | refine pN_l hS (by first | rfl | assumption) ?_ | refine pN_st hS (by first | rfl | omega | simpa only [go_sem] using True.intro | (simp only [go_sem]; omega)) ?_ | refine pN_v (hk := ?_) | fail)
  all_goals
    have hS1 : Sat E w M := hS.to
    have h1 := hQ _ hS1
    clear hQ hS hS1 hx hy
    simpa [*] using h1
end
end Go.Proofs.YtikmogfhhggafaaGreatDoor

namespace Go.Proofs.YtikmogfhhggafaaGreatDoor
open Go
namespace S
def full (e : L.En) (s : Sl) (b : D.B) : It := ⟨e.name, e.link, e.kind, e.mode, e.time, (s, b)⟩
def plainI (x : It) : It := ⟨x.Name, x.Link, x.Kind, x.Mode, x.Time, (⟨none, 0⟩, x.Data.2)⟩
def fulls (dat : L.En → D.B) (es : List L.En) : List It := es.map fun e => full e ⟨none, 0⟩ (dat e)
end S
def itR (its : List T_api_Item) : List HA := its.map fun x => rows cd_uint8 x.Data.1 x.Data.2
theorem itR_snoc {E w : World} {M : List HA} {its : List T_api_Item} (x : T_api_Item) (hS : Sat E w (rows cd_uint8 x.Data.1 x.Data.2 :: bag (itR its) :: M)) : Sat E w (bag (itR (its ++ [x])) :: M) := by
  have h1 := (hS.perm (List.Perm.swap _ _ _)).openBag
  have e : itR its ++ (rows cd_uint8 x.Data.1 x.Data.2 :: M) = itR (its ++ [x]) ++ M := by simp [itR]
  rw [e] at h1
  exact h1.shutBag
theorem itR_rd {its : List T_api_Item} {x : T_api_Item} (h : x ∈ its) : RdP cd_uint8 (bag (itR its)) x.Data.1 x.Data.2 := ⟨fun w ⟨h1, hN, hh⟩ => by
  obtain ⟨h2, hA, hs⟩ := Sats.mem (List.mem_map.2 ⟨x, h, rfl⟩ : rows cd_uint8 x.Data.1 x.Data.2 ∈ itR its) hN
  exact RdA.own w ⟨h2, hA, fun b o e => hh b o (hs b o e)⟩⟩
attribute [local irreducible] oMv oV oU oCall oCallV oBi oBin oUn oLoad oStore oNil oFld oField oIdx oIndex oPick oAlloc oBox oBuild oBs oConv oMk oSl oExt oFn oIface oMap oLook oMapUp oRange oNext oEntry oInv oAssert oPanic oRes pN pA pL pDr pIf gA pGd Calls
section
variable [Pan] {E w W : World} {K Q : Value → World → Prop} {LL M N N' : List HA} {c : T_api_Config} {db : Nat} {d : D.T}

theorem item_ok (p : EE) (hp : p.1 = S.bare (enOf p)) (hS : Sat E w LL) [hf : Fnd (Dep c db) LL d N] [hr : Rds (cdI 58) N p.2.1 p.2.2] (hl : p.2.2.length ≤ 1099511627776) {bs : D.B} (hk : p.1.Kind = 0 → d.get p.2.2 = some bs) (hkn : p.1.Kind ≠ 0 → bs = []) (hb : bs.length ≤ 140737488355328)
    (hQ : ∀ s w, Sat E w (rows cd_uint8 s bs :: Dep c db d :: N) → Q (.tuple #[.agg (S.full (enOf p) s bs).enc.toArray, .int .i64 0]) w) :
    Calls Tryz.prog 71 #[.pointer (some ⟨db, 0, none⟩), .agg (cdE.enc p).toArray] w (retP Q) := by
  refine snap_item.calls ?_
  unfold snap_item.F
  obtain ⟨x, sx, li⟩ := p
  dsimp only at hk hkn hr hl
  have hp : x = ⟨x.Name, x.Link, x.Kind, x.Mode, x.Time, (⟨none, 0⟩, [])⟩ := hp
  obtain ⟨nm, lk, kd, md, tm, dt⟩ := x
  obtain rfl : dt = (⟨none, 0⟩, []) := by injection hp
  dsimp only at hk hkn
  have hS1 := hS.fd (Dep c db)
  clear hS hf hp
  have hS := hS1
  clear hS1
  refine pN_bx (z := cdE.enc ((⟨nm, lk, kd, md, tm, (⟨none, 0⟩, [])⟩ : T_api_Item), (sx, li))) hS rfl ?_
  clear hS
  intro eb w hS
  repeat' (first | (refine pN_nz hS ?_; clear hS; intro a w hS) | refine pN_v (hk := ?_) | fail)
  revert a
  intro x4 hS
  refine pN_la_at (n := 6) hS [.string ⟨nm.toArray⟩, .string ⟨lk.toArray⟩, .int .i64 kd, .int .i64 md, .int .i64 tm, .slice none 0 0] rfl rfl ?_
  by_cases k0 : kd = 0
  · repeat' (first | (refine pc_depot_Depot_Get (DGet_ok (c := c) (s := sx) (li := li) hS hl (fun j q hq => by have := D.get_pre (hk k0) hq; omega) (fun hno => by rw [hk k0] at hno; cases hno) ?_)) | (refine pN_neq_s ?_ ?_ <;> intro hc <;> try (exfalso; first | omega | exact hc rfl | exact hc (by assumption) | exact absurd hc (by assumption))) | refine pIf_f ?_ | refine pN_l hS (by first | rfl | assumption) ?_ | (refine pN_sa hS (by rfl) (by rfl) (by rfl) ?_; clear hS; intro w hS; try dsimp only at hS) | (refine pN_nz hS ?_; clear hS; intro a w hS) | refine pN_v (hk := ?_) | fail)
    intro q hq
    rw [hk k0] at hq
    cases hq
    clear hS
    intro sb w hS
    repeat' (first | (refine pN_neq_s ?_ ?_ <;> intro hc <;> try (exfalso; first | omega | exact hc rfl | exact hc (by assumption) | exact absurd hc (by assumption))) | refine pIf_f ?_ | refine pN_la hS (by rfl) ?_ | refine pL_ra hS (by rfl) ?_ | (refine pN_s hS (by first | exact Nat.le_of_ble_eq_true rfl | assumption) (by rfl) ?_; clear hS; intro w hS; try simp only [List.set_cons_zero, List.set_cons_succ] at hS) | (refine pN_sa hS (by rfl) (by rfl) (by rfl) ?_; clear hS; intro w hS; try dsimp only at hS) | refine pN_v (hk := ?_) | fail)
    exact hQ sb _ hS.to
  · have hbs := hkn k0
    subst hbs
    repeat' (first | (refine pN_neq_s ?_ ?_ <;> intro hc <;> try (exfalso; first | omega | exact hc rfl | exact hc (by assumption) | exact absurd hc (by assumption))) | refine pIf_t ?_ | refine pN_l hS (by first | rfl | assumption) ?_ | refine pN_la hS (by rfl) ?_ | refine pL_ra hS (by rfl) ?_ | (refine pN_sa hS (by rfl) (by rfl) (by rfl) ?_; clear hS; intro w hS; try dsimp only at hS) | (refine pN_nz hS ?_; clear hS; intro a w hS) | refine pN_v (hk := ?_) | fail)
    have h8 : Sat E w (rows cd_uint8 ⟨none, 0⟩ [] :: _) := hS.nil cd_uint8.e cd_uint8.size
    exact hQ ⟨none, 0⟩ _ h8.to

set_option maxHeartbeats 2000000 in
theorem Items_ok (hS : Sat E w LL) [hf : Fnd (Dep c db) LL d N] (n : NKey) {es : List L.En} {root : List I32} (ht : S.Tells d n.1 es root) (hrl : root.length ≤ 1099511627776) (hbl : ∀ q, d.get root = some q → q.length ≤ 1099511627776) (hel : es.length ≤ 1099511627776)
    (dat : L.En → D.B) (hd : ∀ e ∈ es, e.sums.length ≤ 1099511627776 ∧ (e.kind = 0 → d.get e.sums = some (dat e)) ∧ (e.kind ≠ 0 → dat e = []) ∧ (dat e).length ≤ 140737488355328)
    (hQ : ∀ (outs : List T_api_Item) so w, outs.map S.plainI = S.fulls dat es → Sat E w (rows cd_api_Item so outs :: bag (itR outs) :: Dep c db d :: N) → Q (.tuple #[.slice so.a outs.length so.c, .int .i64 0]) w) :
    Calls Tryz.prog 24 #[.pointer (some ⟨db, 0, none⟩), nke n] w (retP Q) := by
  refine snap_Items.calls ?_
  unfold snap_Items.F
  refine pc_snap_listed (slisted_ok (c := c) hS n ht hrl hbl ?_)
  clear hS
  intro ee se sr w hee hba hS
  have hell : ee.length = es.length := by rw [← hee, List.length_map]
  repeat' (first | (refine pN_neq_s ?_ ?_ <;> intro hc <;> try (exfalso; first | omega | exact hc rfl | exact hc (by assumption) | exact absurd hc (by assumption))) | refine pIf_f ?_ | refine pN_v (hk := ?_) | fail)
  refine ⟨fun v v' w => ∃ (j : Nat) (outs : List T_api_Item) (so : Sl), v = .slice so.a outs.length so.c ∧ v' = .int .i64 j ∧ j ≤ ee.length ∧ outs.length = j ∧ outs.map S.plainI = S.fulls dat (es.take j) ∧
    Sat E w (rows cd_api_Item so outs :: bag (itR outs) :: Dep c db d :: rows cdE se ee :: bag (eeR ee) :: N), fun _ v _ => ee.length - (RowKit.intOf v).toNat,
    ⟨0, [], ⟨none, 0⟩, rfl, rfl, by omega, rfl, rfl, ?_⟩, ?_⟩
  · have h8 : Sat E w (rows cd_api_Item ⟨none, 0⟩ [] :: _) := hS.nil cd_api_Item.e cd_api_Item.size
    have h9 : Sat E w (bag (itR []) :: rows cd_api_Item ⟨none, 0⟩ [] :: _) := h8.bag_nil
    exact h9.to
  clear hS
  rintro _ _ _ w ⟨j, outs, so, rfl, rfl, hj, hol, hpl, hS⟩
  by_cases hlt : j < ee.length
  · obtain ⟨p, hp⟩ : ∃ p, ee[j]? = some p := ⟨ee[j], by simp [hlt]⟩
    have hm := List.mem_of_getElem? hp
    have hes : es[j]? = some (enOf p) := by rw [← hee, List.getElem?_map, hp]; rfl
    obtain ⟨d1, d2, d3, d4⟩ := hd (enOf p) (List.mem_of_getElem? hes)
    have hb := hba p hm
    haveI : RdP (cdI 58) (bag (eeR ee)) p.2.1 p.2.2 := eeR_rd hm
    have hnx : S.fulls dat (es.take (j + 1)) = S.fulls dat (es.take j) ++ [S.full (enOf p) ⟨none, 0⟩ (dat (enOf p))] := by
      unfold S.fulls
      rw [List.take_add_one, hes, List.map_append]; rfl
    repeat' (first | (refine pc_snap_item (item_ok (c := c) (d := d) p hb hS d1 (bs := dat (enOf p)) d2 d3 d4 ?_); clear hS; intro si w hS) | (refine pN_lss_s ?_ ?_ <;> intro hc <;> try (exfalso; omega)) | (refine pN_neq_s ?_ ?_ <;> intro hc <;> try (exfalso; first | omega | exact hc rfl | exact hc (by assumption) | exact absurd hc (by assumption))) | refine pIf_t ?_ | refine pIf_f ?_ | refine pN_ld_at ha hS (by rfl) ?_ | refine pN_la hS (by rfl) ?_ | (refine pN_sa hS (by rfl) (by rfl) (by rfl) ?_; clear hS; intro w hS; try dsimp only at hS) | (refine pN_nz hS ?_; clear hS; intro a w hS) | refine pN_ixk hS _ (by first | rfl | (exact (Int.toNat_of_nonneg (by omega)).symm)) (by first | rfl | omega | simpa only [go_sem] using True.intro | (simp only [go_sem]; omega)) (by assumption) fun a ha hel => ?_ | (refine pN_b1 hS (by rfl) (by decide) ?_; clear hS; intro s w hS) | (refine pN_app hS (by first | rfl | omega | simpa only [go_sem] using True.intro | (simp only [go_sem]; omega)) (by first | rfl | omega | simpa only [go_sem] using True.intro | (simp only [go_sem]; omega)) (by first | omega | (simp only [go_sem]; omega)) ?_; clear hS; intro s w hS) | refine pN_v (hk := ?_) | fail)
    have hS : Sat E w (rows cd_uint8 (S.full (enOf p) si (dat (enOf p))).Data.1 (S.full (enOf p) si (dat (enOf p))).Data.2 :: bag (itR outs) :: rows cd_api_Item s (outs ++ [S.full (enOf p) si (dat (enOf p))]) :: Dep c db d :: rows cdE se ee :: bag (eeR ee) :: N) := by
      have h7 : Sat E w (rows cd_uint8 si (dat (enOf p)) :: bag (itR outs) :: rows cd_api_Item s (outs ++ [S.full (enOf p) si (dat (enOf p))]) :: Dep c db d :: rows cdE se ee :: bag (eeR ee) :: N) := hS.to
      exact h7
    have hS := itR_snoc _ hS
    refine ⟨⟨j + 1, _, s, rfl, rfl, by omega, by rw [List.length_append, hol]; rfl, ?_, hS.to⟩, by simp [RowKit.intOf] <;> omega⟩
    rw [List.map_append, hpl, hnx]
    rfl
  · obtain rfl : j = ee.length := by omega
    rw [hell, List.take_length] at hpl
    repeat' (first | (refine pN_lss_s ?_ ?_ <;> intro hc <;> try (exfalso; omega)) | refine pIf_f ?_ | fail)
    exact hQ outs so _ hpl hS.to
end
end Go.Proofs.YtikmogfhhggafaaGreatDoor

namespace Go.Proofs.YtikmogfhhggafaaGreatDoor
open Go
noncomputable instance decIt : DecidableEq T_api_Item := fun _ _ => Classical.propDecidable _
namespace S
theorem same_plain (x y : It) : same x y = decide (plainI x = plainI y) := by
  unfold same plainI
  refine decide_eq_decide.2 ?_
  simp only [T_api_Item.mk.injEq, Prod.mk.injEq, true_and]
end S
attribute [local irreducible] oMv oV oU oCall oCallV oBi oBin oUn oLoad oStore oNil oFld oField oIdx oIndex oPick oAlloc oBox oBuild oBs oConv oMk oSl oExt oFn oIface oMap oLook oMapUp oRange oNext oEntry oInv oAssert oPanic oRes pN pA pL pDr pIf gA pGd Calls S.same
section
variable [Pan] {E w W : World} {K Q : Value → World → Prop} {LL M N N' : List HA} {la lb : List T_api_Item} {sa sb : Sl}

theorem lsameAll_ok (hS : Sat E w M) [ha : Rds cd_api_Item M sa la] [hb : Rds cd_api_Item M sb lb] (hda : ∀ x ∈ la, Rds cd_uint8 M x.Data.1 x.Data.2) (hdb : ∀ x ∈ lb, Rds cd_uint8 M x.Data.1 x.Data.2) (hla : la.length ≤ 1099511627776)
    (hQ : ∀ w, Sat E w M → Q (.bool (decide (la.map S.plainI = lb.map S.plainI))) w) :
    Calls Tryz.prog 27 #[.slice sa.a la.length sa.c, .slice sb.a lb.length sb.c] w (retP Q) := by
  refine pithlaw36_sameAll.calls ?_
  unfold pithlaw36_sameAll.F
  by_cases hl : la.length = lb.length
  · repeat' (first | (refine pN_neq_s ?_ ?_ <;> intro hc <;> try (exfalso; first | omega | exact hc rfl | exact hc (by assumption) | exact absurd hc (by assumption))) | refine pIf_f ?_ | refine pN_v (hk := ?_) | fail)
    refine ⟨fun v w => ∃ j : Nat, v = .int .i64 j ∧ j ≤ la.length ∧ (la.map S.plainI).take j = (lb.map S.plainI).take j ∧ Sat E w M, fun v _ => la.length - (RowKit.intOf v).toNat, ⟨0, rfl, by omega, by rw [List.take_zero, List.take_zero], hS⟩, ?_⟩
    clear hS
    rintro _ _ w ⟨j, rfl, hj, he, hS⟩
    by_cases hlt : j < la.length
    · obtain ⟨x, hx⟩ : ∃ x, la[j]? = some x := ⟨la[j], by simp [hlt]⟩
      obtain ⟨y, hy⟩ : ∃ y, lb[j]? = some y := ⟨lb[j], by simp [show j < lb.length by omega]⟩
      haveI := hda x (List.mem_of_getElem? hx)
      haveI := hdb y (List.mem_of_getElem? hy)
      have hnx : (la.map S.plainI).take (j + 1) = (la.map S.plainI).take j ++ [S.plainI x] := by rw [List.take_add_one, List.getElem?_map, hx]; rfl
      have hny : (lb.map S.plainI).take (j + 1) = (lb.map S.plainI).take j ++ [S.plainI y] := by rw [List.take_add_one, List.getElem?_map, hy]; rfl
      have hsp := S.same_plain x y
      cases hxy : S.same x y with
      | true =>
        rw [hxy] at hsp
        have hp := of_decide_eq_true hsp.symm
        repeat' (first | (refine pc_pithlaw36_same (lsame_ok x y hS ?_); rw [hxy]; clear hS; intro w hS) | (refine pN_lss_s ?_ ?_ <;> intro hc <;> try (exfalso; omega)) | refine pIf_t ?_ | refine pIf_f ?_ | refine pL_ld_at ha hS (by rfl) ?_ | (refine pDr_go hS ?_; clear hS; intro w hS) | refine ⟨trivial, ?_⟩ | refine pA_ixk hS _ (by first | rfl | (exact (Int.toNat_of_nonneg (by omega)).symm)) (by first | rfl | omega | simpa only [go_sem] using True.intro | (simp only [go_sem]; omega)) (by assumption) fun a ha hel => ?_ | refine pN_v (hk := ?_) | refine pA_v (hk := ?_) | fail)
        exact ⟨⟨j + 1, rfl, by omega, by rw [hnx, hny, he, hp], hS⟩, by simp [RowKit.intOf] <;> omega⟩
      | false =>
        rw [hxy] at hsp
        have hp := of_decide_eq_false hsp.symm
        have hne : la.map S.plainI ≠ lb.map S.plainI := fun e => by
          have h1 := congrArg (·[j]?) e
          simp only [List.getElem?_map, hx, hy, Option.map_some, Option.some.injEq] at h1
          exact hp h1
        rw [decide_eq_false hne] at hQ
        repeat' (first | (refine pc_pithlaw36_same (lsame_ok x y hS ?_); rw [hxy]; clear hS; intro w hS) | (refine pN_lss_s ?_ ?_ <;> intro hc <;> try (exfalso; omega)) | refine pIf_t ?_ | refine pL_ld_at ha hS (by rfl) ?_ | (refine pDr_go hS ?_; clear hS; intro w hS) | refine ⟨trivial, ?_⟩ | refine pA_ixk hS _ (by first | rfl | (exact (Int.toNat_of_nonneg (by omega)).symm)) (by first | rfl | omega | simpa only [go_sem] using True.intro | (simp only [go_sem]; omega)) (by assumption) fun a ha hel => ?_ | refine pA_v (hk := ?_) | fail)
        exact hQ _ hS
    · obtain rfl : j = la.length := by omega
      have e1 : (la.map S.plainI).take la.length = la.map S.plainI := List.take_of_length_le (by rw [List.length_map]; exact Nat.le_refl _)
      have e2 : (lb.map S.plainI).take la.length = lb.map S.plainI := List.take_of_length_le (by rw [List.length_map]; omega)
      rw [e1, e2] at he
      rw [decide_eq_true he] at hQ
      repeat' (first | (refine pN_lss_s ?_ ?_ <;> intro hc <;> try (exfalso; omega)) | refine pIf_f ?_ | fail)
      exact hQ _ hS
  · have hne : la.map S.plainI ≠ lb.map S.plainI := fun e => hl (by have := congrArg List.length e; rwa [List.length_map, List.length_map] at this)
    rw [decide_eq_false hne] at hQ
    repeat' (first | (refine pN_neq_s ?_ ?_ <;> intro hc <;> try (exfalso; first | omega | exact hc rfl | exact hc (by assumption) | exact absurd hc (by assumption))) | refine pIf_t ?_ | refine pN_v (hk := ?_) | fail)
    exact hQ _ hS
end
end Go.Proofs.YtikmogfhhggafaaGreatDoor

namespace Go.Proofs.YtikmogfhhggafaaGreatDoor
open Go
namespace S
def uC : T_api_Config := ⟨1, 0, ⟨0, 0, 0⟩, 4096, 65536, 0⟩
def uK : C.K := ⟨64, 64, 0⟩
theorem uC_ok : D.okC uC := by unfold D.okC D.okP uC; decide
theorem uK_ok : uK.legal := by unfold C.K.legal uK; decide
end S
attribute [local irreducible] oMv oV oU oCall oCallV oBi oBin oUn oLoad oStore oNil oFld oField oIdx oIndex oPick oAlloc oBox oBuild oBs oConv oMk oSl oExt oFn oIface oMap oLook oMapUp oRange oNext oEntry oInv oAssert oPanic oRes pN pA pL pDr pIf gA pGd Calls
section
variable [Pan] {E w W : World} {K Q : Value → World → Prop} {LL M N N' : List HA}
theorem lusual_ok (hS : Sat E w M) (hQ : ∀ b w, Sat E w (Dep S.uC b (D.new S.uK) :: M) → Q (.pointer (some ⟨b, 0, none⟩)) w) : Calls Tryz.prog 53 #[] w (retP Q) := by
  refine pithlaw36_usual.calls ?_
  unfold pithlaw36_usual.F
  repeat' (first | (refine pc_pithlaw36_begin (begin_in (⟨S.uC, ⟨64, 64, 0⟩⟩ : T_pithlaw36_Setup) S.uC_ok S.uK_ok hS ?_); clear hS; intro b w hS) | refine pN_v (hk := ?_) | fail)
  exact hQ b _ hS
end
end Go.Proofs.YtikmogfhhggafaaGreatDoor

namespace Go.Proofs.YtikmogfhhggafaaGreatDoor
open Go
namespace S
open D (B)

variable {a b : L.En} {l m es fs : List L.En} {k : Int} {n : B}

end S
end Go.Proofs.YtikmogfhhggafaaGreatDoor

namespace Go.Proofs.YtikmogfhhggafaaGreatDoor
open Go
namespace C
theorem eat_lo (k : K) : ∀ (l : List UInt8) (s : W) (n : Nat), (eat k s n l).2 = true → k.least ≤ ((n + (eat k s n l).1 : Nat) : Int)
  | [], _, _, h => by cases h
  | x :: r, s, n, h => by
    rw [eat] at h ⊢
    split at h
    · rename_i h0
      rw [if_pos h0]
      rw [over_eq, Bool.and_eq_true] at h0
      exact of_decide_eq_true h0.1
    · rename_i h0
      rw [if_neg h0]
      have := eat_lo k r _ _ h
      show k.least ≤ ((n + ((eat k (roll s x) (n + 1) r).1 + 1) : Nat) : Int)
      omega
theorem fst_cases (k : K) (b : List UInt8) : k.least ≤ (fst k b : Int) ∨ fst k b = b.length := by
  have h := eat_lo k b 0 0
  rw [fst_eq]
  cases e : (eat k 0 0 b).2 with
  | false => exact .inr (eat_all k b 0 0 e)
  | true => exact .inl (by have := h e; rwa [Nat.zero_add] at this)
theorem pieces_one {k : K} {b : List UInt8} (h : b ≠ []) (hl : (b.length : Int) < k.least) : pieces k b = [b] := by
  have hf : fst k b = b.length := by
    rcases fst_cases k b with h1 | h1
    · have := fst_le k b
      omega
    · exact h1
  rw [pieces_cons k h, hf, List.take_length, List.drop_length, pieces_nil]
theorem pieces_64 {k : K} (hk : k.legal) (b : List UInt8) : (pieces k b).length * 64 ≤ b.length + 63 := by
  by_cases h : b = []
  · subst h; rw [pieces_nil]; simp
  · have h1 := fst_pos k h
    have h2 : 0 < b.length := List.length_pos_iff.2 h
    have h5 := fst_le k b
    have h6 := hk.1
    rw [pieces_cons k h, List.length_cons]
    rcases fst_cases k b with h4 | h4
    · have h3 := pieces_64 hk (b.drop (fst k b))
      rw [List.length_drop] at h3
      omega
    · rw [h4, List.drop_length, pieces_nil, List.length_nil]
      omega
termination_by b.length
decreasing_by
  simp only [List.length_drop]
  omega
theorem nsize_9 (v : Nat) : nsize v ≤ 9 := by unfold nsize; repeat' split <;> first | omega | skip
theorem put_9 (v : Nat) : (put v).length ≤ 9 := by
  have := nsize_9 v
  rw [put_len]
  unfold nsize at *
  repeat' split <;> first | omega | skip
end C
namespace L
theorem flat_length (l : List I32) : (flat l).length = 32 * l.length := by
  induction l with
  | nil => rfl
  | cons x l ih =>
    have e : flat (x :: l) = x.l ++ flat l := by unfold flat; rw [List.map_cons, List.flatten_cons]
    rw [e, List.length_append, ih, x.h, List.length_cons]; omega
theorem row_le {e : En} (hn : e.name.length ≤ 256) (hl : e.link.length ≤ 100) : (row e).length ≤ 400 + 32 * e.sums.length := by
  have h1 := C.put_9 e.mode.toNat
  have h2 := C.put_9 e.time.toNat
  have h3 := C.put_9 e.name.length
  have h4 := C.put_9 e.link.length
  have h5 := C.put_9 e.sums.length
  have h6 := flat_length e.sums
  unfold row tail text
  rw [List.length_cons, List.length_append, List.length_append, List.length_append, List.length_append]
  split
  · rw [List.length_append]; omega
  · split
    · rw [List.length_append]; omega
    · rw [List.length_nil]; omega
theorem rows_bound {c : Nat} : ∀ {l : List En}, (∀ e ∈ l, (row e).length ≤ c) → (rows l).length ≤ l.length * c
  | [], _ => by simp [rows]
  | e :: l, h => by
    have e1 : rows (e :: l) = row e ++ rows l := by unfold rows; rw [List.map_cons, List.flatten_cons]
    have h1 := h e List.mem_cons_self
    have h2 := rows_bound (c := c) (l := l) fun x hx => h x (List.mem_cons_of_mem _ hx)
    rw [e1, List.length_append, List.length_cons, Nat.add_mul, Nat.one_mul]; omega
end L
namespace S
theorem ids_bound {k : C.K} (hk : k.legal) {b : D.B} (hb : b.length ≤ 1048576) : (D.ids k b).length ≤ 16384 := by
  have h1 := C.pieces_64 hk b
  have h2 : (D.ids k b).length = (C.pieces k b).length := List.length_map ..
  omega
theorem list_le {k : C.K} (hk : k.legal) {l : List It} (hw : ∀ x ∈ l, A.wrong x = 0) (hd : ∀ x ∈ l, x.Data.2.length ≤ 1048576) (hl : l.length ≤ 1048576) : (list k l).length ≤ 1099511627776 := by
  have h1 := C.put_9 (l.map (en k)).length
  have h2 : (L.rows (l.map (en k))).length ≤ (l.map (en k)).length * 524688 := by
    refine L.rows_bound fun e he => ?_
    obtain ⟨x, hx, rfl⟩ := List.mem_map.1 he
    have f := fine_of (hw x hx)
    have h3 := L.row_le (e := en k x) (parted_len f.name) f.lnk
    have h4 : (en k x).sums.length ≤ 16384 := ids_bound hk (hd x hx)
    omega
  rw [List.length_map] at h1 h2
  rw [list, L.list, List.length_append, List.length_map]
  have h5 : l.length * 524688 ≤ 1048576 * 524688 := Nat.mul_le_mul_right _ hl
  omega
end S
end Go.Proofs.YtikmogfhhggafaaGreatDoor

namespace Go.Proofs.YtikmogfhhggafaaGreatDoor
open Go
namespace L
theorem flat_ids {P : List (List UInt8)} {j : Nat} {q : List UInt8} (h : P[j]? = some q) : flat ((P.take (j + 1)).map H.sum) = flat ((P.take j).map H.sum) ++ (H.sum q).l := by
  rw [List.take_add_one, h, List.map_append]
  unfold flat
  simp
theorem flat_0 (P : List (List UInt8)) : flat ((P.take 0).map H.sum) = [] := by rw [List.take_zero]; rfl
theorem mem_le : ∀ {P : List (List UInt8)} {q : List UInt8}, q ∈ P → q.length ≤ P.flatten.length
  | p :: P, q, h => by
    rw [List.flatten_cons, List.length_append]
    rcases List.mem_cons.1 h with rfl | h
    · omega
    · have := mem_le h
      omega
end L
instance ar_b32 : Ar Tryz.prog 57 32 := ⟨_, Tryz.underlying57, Tryz.sizeOf5, Tryz.isAgg5⟩
attribute [local irreducible] oMv oV oU oCall oCallV oBi oBin oUn oLoad oStore oNil oFld oField oIdx oIndex oPick oAlloc oBox oBuild oBs oConv oMk oSl oExt oFn oIface oMap oLook oMapUp oRange oNext oEntry oInv oAssert oPanic oRes pN pA pL pDr pIf gA pGd Calls H.sum C.put L.flat
section
variable [Pan] {E w W : World} {K Q : Value → World → Prop} {LL M N N' : List HA} {its : List T_api_Item} {s sl : Sl}

set_option maxHeartbeats 4000000 in
theorem llisted_ok {k : C.K} (hk : k.legal) (hG : GloS W) (hS : Sat E w M) [hg : Has (old W) M N] [hr : Rds cd_api_Item M sl its] (hd : ∀ x ∈ its, Rds cd_uint8 M x.Data.1 x.Data.2 ∧ x.Data.2.length ≤ 1099511627776)
    (hw : ∀ x ∈ its, A.wrong x = 0) (htw : S.twice (S.sort its) = false) (hl : its.length ≤ 1099511627776) (hb : (S.list k (S.sort its)).length ≤ 140737488355000)
    (hQ : ∀ s2 w, Sat E w (rows cd_uint8 s2 (S.list k (S.sort its)) :: M) → Q (.slice s2.a (S.list k (S.sort its)).length s2.c) w) :
    Calls Tryz.prog 51 #[.slice sl.a its.length sl.c, .agg #[.int .i64 k.least, .int .i64 k.most, .int .i64 k.bits]] w (retP Q) := by
  refine pithlaw36_listed.calls ?_
  unfold pithlaw36_listed.F
  refine pN_bx (z := [.int .i64 k.least, .int .i64 k.most, .int .i64 k.bits]) hS rfl ?_
  clear hS
  intro kb w hS
  refine pc_pithlaw36_sorted (lsorted_ok hS hl (fun _ => ?_) fun h => absurd h (by rw [htw]; decide))
  clear hS
  intro sg w hS
  have hgl : (S.sort its).length = its.length := (S.sort_perm its).length_eq
  have hdG : ∀ x ∈ S.sort its, Rds cd_uint8 M x.Data.1 x.Data.2 ∧ x.Data.2.length ≤ 1099511627776 := fun x hx => hd x ((S.sort_perm its).mem_iff.1 hx)
  have hwG : ∀ x ∈ S.sort its, A.wrong x = 0 := fun x hx => hw x ((S.sort_perm its).mem_iff.1 hx)
  generalize S.sort its = G at *
  have hes : G.length = (G.map (S.en k)).length := (List.length_map ..).symm
  have hrl := L.rows_le (es := G.map (S.en k))
  have hls : S.list k G = C.put G.length ++ L.rows (G.map (S.en k)) := by rw [S.list, L.list, List.length_map]
  rw [hls] at hb hQ
  rw [List.length_append] at hb
  have h0 : Sat E w (rows cd_uint8 ⟨none, 0⟩ [] :: _) := hS.nil cd_uint8.e cd_uint8.size
  clear hS
  have hS := h0
  clear h0
  have e0 : (.slice none 0 0 : Value) = .slice (⟨none, 0⟩ : Sl).a ([] : List UInt8).length (⟨none, 0⟩ : Sl).c := rfl
  rw [e0]
  repeat' (first | (refine pc_pithlaw36_number (lnum_ok hG _ (by omega) (by omega) hS (by decide) ?_); clear hS; intro s1 w hS; rw [List.nil_append, Int.toNat_natCast] at hS ⊢) | refine pN_v (hk := ?_) | fail)
  refine ⟨fun v v' w => ∃ (j : Nat) (so : Sl), j ≤ G.length ∧ v = .slice so.a (C.put G.length ++ L.rows ((G.map (S.en k)).take j)).length so.c ∧ v' = .int .i64 j ∧ Sat E w (rows cd_uint8 so (C.put G.length ++ L.rows ((G.map (S.en k)).take j)) :: rows cd_api_Item sg G :: cel kb ⟨27, [.int .i64 k.least, .int .i64 k.most, .int .i64 k.bits]⟩ :: M), fun _ v _ => G.length - (RowKit.intOf v).toNat,
    ⟨0, s1, by omega, by rw [List.take_zero]; show _ = Value.slice s1.a (C.put G.length ++ []).length s1.c; rw [List.append_nil], rfl, by rw [List.take_zero]; show Sat E w (rows cd_uint8 s1 (C.put G.length ++ []) :: _); rw [List.append_nil]; exact hS⟩, ?_⟩
  clear hS
  rintro _ _ _ w ⟨j, so, hj, rfl, rfl, hS⟩
  by_cases hlt : j < G.length
  · obtain ⟨x, hx⟩ : ∃ x, G[j]? = some x := ⟨G[j], by simp [hlt]⟩
    have hm : x ∈ G := List.mem_of_getElem? hx
    obtain ⟨hrd, hdl⟩ := hdG x hm
    obtain ⟨_, _, _, m0, m1, t0, t1, _, _, _, _, hd0⟩ := A.wrong_0 (hwG x hm)
    have hrk := L.rows_take (es := G.map (S.en k)) (k := j) (e := S.en k x) (by rw [List.getElem?_map, hx]; rfl)
    have hr1 := hrl (j + 1)
    rw [hrk, List.length_append] at hr1
    have hrow : L.row (S.en k x) = byteOf x.Kind :: (C.put x.Mode.toNat ++ (C.put x.Time.toNat ++ (L.text x.Name ++ L.tail (S.en k x)))) := rfl
    rw [hrow] at hr1 hrk
    have htx : L.text x.Name = C.put x.Name.length ++ x.Name := rfl
    have hput : C.put G.length ++ L.rows ((G.map (S.en k)).take (j + 1)) = (C.put G.length ++ L.rows ((G.map (S.en k)).take j)) ++ (byteOf x.Kind :: (C.put x.Mode.toNat ++ (C.put x.Time.toNat ++ ((C.put x.Name.length ++ x.Name) ++ L.tail (S.en k x))))) := by rw [hrk, List.append_assoc, htx]
    rw [htx] at hr1
    have hbl : (C.put G.length ++ L.rows ((G.map (S.en k)).take j)).length = (C.put G.length).length + (L.rows ((G.map (S.en k)).take j)).length := List.length_append
    simp only [List.length_cons, List.length_append] at hr1
    generalize C.put G.length ++ L.rows ((G.map (S.en k)).take j) = pr at *
    have htail : L.tail (S.en k x) = if x.Kind = 0 then C.put (D.ids k x.Data.2).length ++ L.flat (D.ids k x.Data.2) else if x.Kind = 2 then L.text x.Link else [] := rfl
    have hasc : pr ++ (byteOf x.Kind :: (C.put x.Mode.toNat ++ (C.put x.Time.toNat ++ ((C.put x.Name.length ++ x.Name) ++ L.tail (S.en k x))))) = (pr ++ [byteOf x.Kind] ++ C.put x.Mode.toNat ++ C.put x.Time.toNat ++ C.put x.Name.length ++ x.Name) ++ L.tail (S.en k x) := by simp only [List.append_assoc, List.cons_append, List.nil_append]
    rw [hasc] at hput
    have hpl : (pr ++ [byteOf x.Kind] ++ C.put x.Mode.toNat ++ C.put x.Time.toNat ++ C.put x.Name.length ++ x.Name).length + (L.tail (S.en k x)).length ≤ 140737488355000 := by simp only [List.length_append, List.length_cons, List.length_nil]; omega
    repeat' (first | (refine pN_lss_s ?_ ?_ <;> intro hc <;> try (exfalso; omega)) | refine pIf_t ?_ | fail)
    refine ⟨fun v w => ∃ so, v = .slice so.a ((pr ++ [byteOf x.Kind] ++ C.put x.Mode.toNat ++ C.put x.Time.toNat ++ C.put x.Name.length ++ x.Name) ++ L.tail (S.en k x)).length so.c ∧ Sat E w (rows cd_uint8 so ((pr ++ [byteOf x.Kind] ++ C.put x.Mode.toNat ++ C.put x.Time.toNat ++ C.put x.Name.length ++ x.Name) ++ L.tail (S.en k x)) :: rows cd_api_Item sg G :: cel kb ⟨27, [.int .i64 k.least, .int .i64 k.most, .int .i64 k.bits]⟩ :: M), ?_, ?_⟩
    · repeat' (first | refine pN_tob ?_ | refine pN_l hS (by first | rfl | assumption) ?_ | refine pL_l hS (by first | rfl | assumption) ?_ | refine pN_ld_at ha hS (by rfl) ?_ | (refine pN_sa hS (by rfl) (by rfl) (by rfl) ?_; clear hS; intro w hS; try dsimp only at hS) | (refine pDr_go hS ?_; clear hS; intro w hS) | (refine pN_nz hS ?_; clear hS; intro a w hS) | refine pN_ixk hS _ (by first | rfl | (exact (Int.toNat_of_nonneg (by omega)).symm)) (by first | rfl | omega | simpa only [go_sem] using True.intro | (simp only [go_sem]; omega)) (by assumption) fun a ha hel => ?_ | (refine pN_b1 hS (by rfl) (by decide) ?_; clear hS; intro s w hS) | (refine pN_app hS (by first | rfl | omega | simpa only [go_sem] using True.intro | (simp only [go_sem]; omega)) (by first | rfl | omega | simpa only [go_sem] using True.intro | (simp only [go_sem]; omega)) (by first | omega | (simp only [go_sem]; omega)) ?_; clear hS; intro s w hS) | refine pN_v (hk := ?_) | refine pA_v (hk := ?_) | fail)
      refine pc_pithlaw36_number (lnum_ok hG x.Mode m0 (by omega) hS (by simp only [List.length_append, List.length_cons, List.length_nil]; omega) ?_)
      clear hS
      intro s1 w hS
      refine ⟨⟨run_l hS rfl, trivial⟩, ?_⟩
      refine pc_pithlaw36_number (lnum_ok hG x.Time t0 (by omega) hS (by simp only [List.length_append, List.length_cons, List.length_nil]; omega) ?_)
      clear hS
      intro s2 w hS
      refine ⟨trivial, ?_⟩
      repeat' (first | refine pA_slen ?_ | refine pL_l hS (by first | rfl | assumption) ?_ | (refine pDr_go hS ?_; clear hS; intro w hS) | refine pA_v (hk := ?_) | fail)
      refine pc_pithlaw36_number (lnum_ok hG (x.Name.length : Nat) (by omega) (by omega) hS (by simp only [List.length_append, List.length_cons, List.length_nil]; omega) ?_)
      clear hS
      intro s3 w hS
      refine ⟨⟨run_l hS rfl, trivial⟩, ?_⟩
      rw [Int.toNat_natCast] at hS ⊢
      refine pN_apst (C := cd_uint8) (m := x.Name) hS rfl (by simp only [List.length_append, List.length_cons, List.length_nil]; omega) ?_
      clear hS
      intro s4 w hS
      refine ⟨trivial, ?_⟩
      generalize pr ++ [byteOf x.Kind] ++ C.put x.Mode.toNat ++ C.put x.Time.toNat ++ C.put x.Name.length ++ x.Name = pr2 at *
      refine ⟨fun v w => ∃ so, v = .slice so.a (pr2 ++ (if x.Kind = 0 then C.put (D.ids k x.Data.2).length ++ L.flat (D.ids k x.Data.2) else [])).length so.c ∧ Sat E w (rows cd_uint8 so (pr2 ++ (if x.Kind = 0 then C.put (D.ids k x.Data.2).length ++ L.flat (D.ids k x.Data.2) else [])) :: cel a ⟨49, cd_api_Item.enc x⟩ :: rows cd_api_Item sg G :: cel kb ⟨27, [.int .i64 k.least, .int .i64 k.most, .int .i64 k.bits]⟩ :: M), ?_, ?_⟩
      · by_cases k0 : x.Kind = 0
        · rw [if_pos k0] at htail ⊢
          rw [htail, List.length_append] at hpl
          have hidl : (D.ids k x.Data.2).length = (C.pieces k x.Data.2).length := List.length_map ..
          have hidm : D.ids k x.Data.2 = (C.pieces k x.Data.2).map H.sum := rfl
          have hfl := L.flat_len (D.ids k x.Data.2)
          have hjn := C.pieces_join k x.Data.2
          repeat' (first | (refine pc_pithlaw36_pieces (lpieces_ok (s := x.Data.1) (l := x.Data.2) hk hS hdl ?_); clear hS; intro sp w hS) | (refine pN_eql_s ?_ ?_ <;> intro hc <;> try (exfalso; first | omega | exact hc rfl | exact hc (by assumption) | exact absurd hc (by assumption))) | refine pIf_t ?_ | refine pN_l hS (by first | rfl | assumption) ?_ | refine pN_la hS (by rfl) ?_ | refine pN_v (hk := ?_) | fail)
          rw [hidl] at hpl hfl ⊢
          rw [hidm] at hpl hfl ⊢
          generalize C.pieces k x.Data.2 = P at *
          have htk : ∀ j, (L.flat ((P.take j).map H.sum)).length ≤ (L.flat (P.map H.sum)).length := fun j => by rw [L.flat_len, L.flat_len, List.length_map, List.length_map, List.length_take]; omega
          repeat' (first | (refine pc_pithlaw36_number (lnum_ok hG _ (by omega) (by omega) hS (by omega) ?_); clear hS; intro s5 w hS; rw [Int.toNat_natCast] at hS ⊢) | refine pN_v (hk := ?_) | fail)
          rw [← List.append_assoc]
          rw [← Nat.add_assoc, ← List.length_append] at hpl
          generalize pr2 ++ C.put P.length = pr3 at *
          refine ⟨fun v v' w => ∃ (j : Nat) (so : Sl), j ≤ P.length ∧ v = .slice so.a (pr3 ++ L.flat ((P.take j).map H.sum)).length so.c ∧ v' = .int .i64 j ∧ Sat E w (rows cd_uint8 so (pr3 ++ L.flat ((P.take j).map H.sum)) :: rows cd_string sp P :: cel a ⟨49, cd_api_Item.enc x⟩ :: rows cd_api_Item sg G :: cel kb ⟨27, [.int .i64 k.least, .int .i64 k.most, .int .i64 k.bits]⟩ :: M), fun _ v _ => P.length - (RowKit.intOf v).toNat,
            ⟨0, s5, by omega, by rw [L.flat_0, List.append_nil], rfl, by rw [L.flat_0, List.append_nil]; exact hS.to⟩, ?_⟩
          clear hS
          rintro _ _ _ w ⟨j2, so2, hj2, rfl, rfl, hS⟩
          by_cases hlt2 : j2 < P.length
          · obtain ⟨q, hq⟩ : ∃ q, P[j2]? = some q := ⟨P[j2], by simp [hlt2]⟩
            have hnx := L.flat_ids hq
            have h1 := htk (j2 + 1)
            have hql := L.mem_le (List.mem_of_getElem? hq)
            rw [hjn] at hql
            rw [hnx, List.length_append, (H.sum q).h] at h1
            repeat' (first | (refine pN_tobs hS (by unfold maxLen; omega) ?_; clear hS; intro s6 w hS) | (refine pN_b1 (x := (s6, q)) hS rfl (by decide) ?_; clear hS; intro s7 w hS) | (refine pc_sha_Sum (Sum_ok (l := q) (s1 := s6) hG hS (by omega) ?_); clear hS; intro w hS) | (refine pN_lss_s ?_ ?_ <;> intro hc <;> try (exfalso; omega)) | refine pIf_t ?_ | refine pN_ld1 ha hS ?_ | (refine pN_nz hS ?_; clear hS; intro a w hS) | refine pN_ixk hS _ (by first | rfl | (exact (Int.toNat_of_nonneg (by omega)).symm)) (by first | rfl | omega | simpa only [go_sem] using True.intro | (simp only [go_sem]; omega)) (by assumption) fun a ha hel => ?_ | fail)
            have hih := (H.sum q).h
            generalize H.sum q = i at *
            refine pN_sid hS i (by rfl) ?_
            clear hS
            intro w hS
            refine pN_asla (by omega) ?_
            haveI := rd_cel (e := 57) (b := a) i.h
            refine pN_app (C := cd_uint8) (l := pr3 ++ L.flat ((P.take j2).map H.sum)) (s2 := ⟨some ⟨a, 0, none⟩, 32⟩) (m := i.l) hS rfl i.h.symm (by rw [List.length_append]; omega) ?_
            clear hS
            intro s8 w hS
            rw [List.append_assoc, ← hnx] at hS ⊢
            repeat' (first | refine pN_v (hk := ?_) | fail)
            exact ⟨⟨j2 + 1, s8, by omega, rfl, rfl, hS.to⟩, by simp [RowKit.intOf] <;> omega⟩
          · obtain rfl : j2 = P.length := by omega
            rw [List.take_length] at hS ⊢
            repeat' (first | (refine pN_lss_s ?_ ?_ <;> intro hc <;> try (exfalso; omega)) | refine pIf_f ?_ | fail)
            exact ⟨_, rfl, hS.to⟩
        · rw [if_neg k0, List.append_nil]
          repeat' (first | (refine pN_eql_s ?_ ?_ <;> intro hc <;> try (exfalso; first | omega | exact hc rfl | exact hc (by assumption) | exact absurd hc (by assumption))) | refine pIf_f ?_ | refine pN_l hS (by first | rfl | assumption) ?_ | refine pN_v (hk := ?_) | fail)
          exact ⟨_, rfl, hS.to⟩
      · clear hS
        rintro _ _ w ⟨so, rfl, hS⟩
        by_cases k0 : x.Kind = 0
        · rw [if_pos k0] at hS htail ⊢
          rw [htail]
          repeat' (first | (refine pN_eql_s ?_ ?_ <;> intro hc <;> try (exfalso; first | omega | exact hc rfl | exact hc (by assumption) | exact absurd hc (by assumption))) | refine pIf_f ?_ | refine pN_l hS (by first | rfl | assumption) ?_ | refine pN_v (hk := ?_) | fail)
          exact ⟨_, rfl, hS.to⟩
        · rw [if_neg k0, List.append_nil] at hS ⊢
          rw [if_neg k0] at htail
          by_cases k2 : x.Kind = 2
          · rw [if_pos k2] at htail
            rw [htail] at hpl ⊢
            have htx2 : L.text x.Link = C.put x.Link.length ++ x.Link := rfl
            rw [htx2, List.length_append] at hpl
            rw [htx2, ← List.append_assoc]
            repeat' (first | refine pA_slen ?_ | (refine pN_eql_s ?_ ?_ <;> intro hc <;> try (exfalso; first | omega | exact hc rfl | exact hc (by assumption) | exact absurd hc (by assumption))) | refine pIf_t ?_ | refine pN_l hS (by first | rfl | assumption) ?_ | refine pL_l hS (by first | rfl | assumption) ?_ | (refine pDr_go hS ?_; clear hS; intro w hS) | refine pN_v (hk := ?_) | refine pA_v (hk := ?_) | fail)
            refine pc_pithlaw36_number (lnum_ok hG (x.Link.length : Nat) (by omega) (by omega) hS (by omega) ?_)
            clear hS
            intro s3 w hS
            refine ⟨⟨run_l hS rfl, trivial⟩, ?_⟩
            rw [Int.toNat_natCast] at hS ⊢
            refine pN_apst (C := cd_uint8) (m := x.Link) hS rfl (by simp only [List.length_append]; omega) ?_
            clear hS
            intro s4 w hS
            exact ⟨trivial, _, rfl, hS.to⟩
          · rw [if_neg k2] at htail
            rw [htail, List.append_nil]
            repeat' (first | (refine pN_eql_s ?_ ?_ <;> intro hc <;> try (exfalso; first | omega | exact hc rfl | exact hc (by assumption) | exact absurd hc (by assumption))) | refine pIf_f ?_ | refine pN_l hS (by first | rfl | assumption) ?_ | refine pN_v (hk := ?_) | fail)
            exact ⟨_, rfl, hS.to⟩
    · clear hS
      rintro _ _ w ⟨so, rfl, hS⟩
      repeat' (first | refine pN_v (hk := ?_) | fail)
      exact ⟨⟨j + 1, so, by omega, by rw [hput], rfl, by rw [hput]; exact hS⟩, by simp [RowKit.intOf] <;> omega⟩
  · obtain rfl : j = G.length := by omega
    rw [hes, List.take_length, ← hes] at hS ⊢
    repeat' (first | (refine pN_lss_s ?_ ?_ <;> intro hc <;> try (exfalso; omega)) | refine pIf_f ?_ | fail)
    exact hQ _ _ hS.to
end
end Go.Proofs.YtikmogfhhggafaaGreatDoor

namespace Go.Proofs.YtikmogfhhggafaaGreatDoor
open Go
namespace S
def loose : D.B := [115, 111, 109, 101, 116, 104, 105, 110, 103, 32, 101, 108, 115, 101, 44, 32, 119, 104, 105, 99, 104, 32, 110, 111, 98, 111, 100, 121, 32, 110, 101, 101, 100, 115]
def parts (k : C.K) (l : List It) : List D.B := C.pieces k (list k (sort l)) ++ (l.map fun x => C.pieces k x.Data.2).flatten
def univ (k : C.K) (ls : List (List It)) : List D.B := loose :: (ls.map (parts k)).flatten
end S
instance a32_b : A32 Tryz.prog 57 := ⟨⟨5, by kernel_rfl, by kernel_rfl, Tryz.sizeOf5⟩, by kernel_rfl⟩
instance mt_have : MapT Tryz.prog 107 idV (.string ⟨#[]⟩) := ⟨_, _, Tryz.underlying107, Tryz.zeroValue9, inferInstance⟩
def sv (l : List UInt8) : Value := .string ⟨l.toArray⟩
def svs (l : List (I32 × List UInt8)) : List (I32 × Value) := l.map fun x => (x.1, sv x.2)
theorem svs_get (l : List (I32 × List UInt8)) (k : I32) : mget (svs l) k = (D.look l k).map sv := by
  rw [D.mget_look]
  exact D.look_map (g := id) (fun a b h => h) sv l k
theorem svs_put (l : List (I32 × List UInt8)) (k : I32) (x : List UInt8) : mput (svs l) k (sv x) = svs (D.upd l k x) := by
  rw [D.mput_upd]
  exact D.upd_map (g := id) (fun a b h => h) sv l k x
theorem univ_le {k : C.K} {ls : List (List T_api_Item)} (h : ∀ l ∈ ls, (S.list k (S.sort l)).length ≤ 1099511627776 ∧ ∀ x ∈ l, x.Data.2.length ≤ 1099511627776) : ∀ q ∈ S.univ k ls, q.length ≤ 1099511627776 := by
  intro q hq
  have hpc : ∀ b : List UInt8, q ∈ C.pieces k b → q.length ≤ b.length := fun b hb => by
    have := L.mem_le hb
    rw [C.pieces_join] at this
    exact this
  rcases List.mem_cons.1 hq with rfl | hq
  · decide
  · obtain ⟨P, hP, hq⟩ := List.mem_flatten.1 hq
    obtain ⟨l, hl, rfl⟩ := List.mem_map.1 hP
    obtain ⟨h1, h2⟩ := h l hl
    rcases List.mem_append.1 hq with hq | hq
    · have := hpc _ hq
      omega
    · obtain ⟨P2, hP2, hq⟩ := List.mem_flatten.1 hq
      obtain ⟨x, hx, rfl⟩ := List.mem_map.1 hP2
      have := hpc _ hq
      have := h2 x hx
      omega
namespace S
theorem univ_take {k : C.K} {ls : List (List It)} {j : Nat} {l : List It} (h : ls[j]? = some l) : univ k (ls.take (j + 1)) = univ k (ls.take j) ++ parts k l := by
  unfold univ
  rw [List.take_add_one, h]
  simp
theorem right_0 {l : List It} (h : rightI l = 0) : (∀ x ∈ l, A.wrong x = 0) ∧ twice (sort l) = false := by
  unfold rightI at h
  split at h
  · rename_i h1; exact absurd h h1
  · rename_i h1
    have h1 : werr l = 0 := Classical.not_not.1 h1
    split at h
    · cases h
    · rename_i h2
      exact ⟨werr_of h1, by cases h3 : twice (sort l) with
        | false => rfl
        | true => exact absurd h3 h2⟩
def datas (k : C.K) (l : List It) : List D.B := (l.map fun x => C.pieces k x.Data.2).flatten
theorem datas_take {k : C.K} {l : List It} {i : Nat} {x : It} (h : l[i]? = some x) : datas k (l.take (i + 1)) = datas k (l.take i) ++ C.pieces k x.Data.2 := by
  unfold datas
  rw [List.take_add_one, h]
  simp
theorem datas_0 (k : C.K) : datas k [] = [] := rfl
theorem datas_le (k : C.K) : ∀ (l : List It), (∀ x ∈ l, x.Data.2.length ≤ 1048576) → (datas k l).length ≤ l.length * 1048576
  | [], _ => by simp [datas]
  | x :: l, h => by
    have ih := datas_le k l fun y hy => h y (List.mem_cons_of_mem _ hy)
    have h1 := h x List.mem_cons_self
    have h2 := C.pieces_len k x.Data.2
    have e : datas k (x :: l) = C.pieces k x.Data.2 ++ datas k l := rfl
    rw [e, List.length_append, List.length_cons, Nat.add_mul]
    omega
theorem parts_eq (k : C.K) (l : List It) : parts k l = C.pieces k (list k (sort l)) ++ datas k l := rfl
end S
attribute [local irreducible] oMv oV oU oCall oCallV oBi oBin oUn oLoad oStore oNil oFld oField oIdx oIndex oPick oAlloc oBox oBuild oBs oConv oMk oSl oExt oFn oIface oMap oLook oMapUp oRange oNext oEntry oInv oAssert oPanic oRes pN pA pL pDr pIf gA pGd Calls H.sum C.put L.flat
section
variable [Pan] {E w W : World} {K Q : Value → World → Prop} {LL M N N' : List HA} {s sl : Sl} {k : C.K}

abbrev seen (all : List (List UInt8)) (j : Nat) (l : List (I32 × List UInt8)) : Prop := ∀ p ∈ all.take j, D.look l (H.sum p) = some p
theorem seen_nc {all : List (List UInt8)} {l : List (I32 × List UInt8)} (h : seen all all.length l) : D.NC all := fun p hp q hq e => by
  have h1 := h p (by rw [List.take_length]; exact hp)
  have h2 := h q (by rw [List.take_length]; exact hq)
  rw [e, h2] at h1
  exact (Option.some.inj h1).symm
theorem seen_put {all : List (List UInt8)} {l : List (I32 × List UInt8)} {j : Nat} {q : List UInt8} (h : seen all j l) (hq : all[j]? = some q) (ho : ∀ p, D.look l (H.sum q) = some p → p = q) : seen all (j + 1) (D.upd l (H.sum q) q) := fun p hp => by
  rw [List.take_add_one, hq] at hp
  by_cases e : H.sum q = H.sum p
  · rcases List.mem_append.1 hp with hp | hp
    · have h1 := h p hp
      rw [← e] at h1 ⊢
      rw [ho p h1, D.look_upd_same]
    · obtain rfl : p = q := by simpa using hp
      exact D.look_upd_same ..
  · rw [D.look_upd_other _ _ _ _ e]
    rcases List.mem_append.1 hp with hp | hp
    · exact h p hp
    · obtain rfl : p = q := by simpa using hp
      exact absurd rfl e

set_option maxHeartbeats 4000000 in
theorem collide_ok (o : T_pithlaw36_Setup) (hk : (kutV o.f_K).legal) (hG : GloS W) (hS : Sat E w M) [hg : Has (old W) M N] {ll : List (Sl × List T_api_Item)} [hr : Rds cd_sl_api_Item M sl ll]
    (hl : ll.length ≤ 3) (hd : ∀ p ∈ ll, Rds cd_api_Item M p.1 p.2 ∧ p.2.length ≤ 1048576 ∧ S.rightI p.2 = 0 ∧ (S.list (kutV o.f_K) (S.sort p.2)).length ≤ 1099511627776 ∧ ∀ x ∈ p.2, Rds cd_uint8 M x.Data.1 x.Data.2 ∧ x.Data.2.length ≤ 1048576 ∧ x.Name.length ≤ 1048576 ∧ x.Link.length ≤ 1048576)
    (hyes : ∀ w, Sat E w M → Q (.bool true) w) (hno : D.NC (S.univ (kutV o.f_K) (ll.map (·.2))) → ∀ w, Sat E w M → Q (.bool false) w) :
    Calls Tryz.prog 10 #[.agg o.enc.toArray, .slice sl.a ll.length sl.c] w (retP Q) := by
  refine pithlaw36_collide.calls ?_
  unfold pithlaw36_collide.F
  refine pN_bx (z := o.enc) hS rfl ?_
  clear hS
  intro ob w hS
  refine pN_b1 (C := cd_string) (x := S.loose) hS rfl (by decide) ?_
  clear hS
  intro sa w hS
  repeat' (first | refine pN_v (hk := ?_) | fail)
  refine ⟨fun v v' w => ∃ (j : Nat) (so : Sl), j ≤ ll.length ∧ v = .slice so.a (S.univ (kutV o.f_K) ((ll.map (·.2)).take j)).length so.c ∧ v' = .int .i64 j ∧ (S.univ (kutV o.f_K) ((ll.map (·.2)).take j)).length ≤ 1 + j * 2199023255552 ∧ Sat E w (rows cd_string so (S.univ (kutV o.f_K) ((ll.map (·.2)).take j)) :: cel ob ⟨29, o.enc⟩ :: M), fun _ v _ => ll.length - (RowKit.intOf v).toNat,
    ⟨0, sa, by omega, by rw [List.take_zero]; rfl, rfl, by rw [List.take_zero, S.univ]; simp, by rw [List.take_zero]; exact hS⟩, ?_⟩
  clear hS
  rintro _ _ _ w ⟨j, so, hj, rfl, rfl, hul, hS⟩
  by_cases hlt : j < ll.length
  · obtain ⟨p, hp⟩ : ∃ p, ll[j]? = some p := ⟨ll[j], by simp [hlt]⟩
    obtain ⟨s1, l1⟩ := p
    obtain ⟨g1, g2, g3, g4, g5⟩ := hd _ (List.mem_of_getElem? hp)
    dsimp only at g1 g2 g3 g4 g5
    obtain ⟨hw, htw⟩ := S.right_0 g3
    haveI := g1
    have hut := S.univ_take (k := kutV o.f_K) (ls := ll.map (·.2)) (j := j) (l := l1) (by rw [List.getElem?_map, hp]; rfl)
    rw [S.parts_eq] at hut
    have hpl := C.pieces_len (kutV o.f_K) (S.list (kutV o.f_K) (S.sort l1))
    have hdl := S.datas_le (kutV o.f_K) l1 fun x hx => (g5 x hx).2.1
    have hdti : ∀ i, (S.datas (kutV o.f_K) (l1.take i)).length ≤ 1099511627776 := fun i => by
      have := S.datas_le (kutV o.f_K) (l1.take i) fun x hx => (g5 x (List.mem_of_mem_take hx)).2.1
      have h2 : (l1.take i).length ≤ l1.length := by rw [List.length_take]; omega
      have h3 : (l1.take i).length * 1048576 ≤ 1048576 * 1048576 := Nat.mul_le_mul_right _ (by omega)
      omega
    have hdt := hdti l1.length
    rw [List.take_length] at hdt
    have hj9 : j * 2199023255552 ≤ 2 * 2199023255552 := Nat.mul_le_mul_right _ (by omega)
    have hj1 : (j + 1) * 2199023255552 = j * 2199023255552 + 2199023255552 := by rw [Nat.add_mul, Nat.one_mul]
    generalize S.univ (kutV o.f_K) ((ll.map (·.2)).take j) = A0 at *
    repeat' (first | (refine pN_lss_s ?_ ?_ <;> intro hc <;> try (exfalso; omega)) | refine pIf_t ?_ | fail)
    refine ⟨fun v w => ∃ so, v = .slice so.a (A0 ++ (C.pieces (kutV o.f_K) (S.list (kutV o.f_K) (S.sort l1)) ++ S.datas (kutV o.f_K) l1)).length so.c ∧ Sat E w (rows cd_string so (A0 ++ (C.pieces (kutV o.f_K) (S.list (kutV o.f_K) (S.sort l1)) ++ S.datas (kutV o.f_K) l1)) :: cel ob ⟨29, o.enc⟩ :: M), ?_, ?_⟩
    · repeat' (first | (refine pc_pithlaw36_right (lright_ok (sl := s1) (its := l1) hS (fun x hx => by haveI := (g5 x hx).1; infer_instance) (fun x hx => by have := g5 x hx; omega) (by omega) ?_); rw [g3]; clear hS; intro w hS) | refine pL_la_at (n := 3) hS [.int .i64 o.f_K.Least, .int .i64 o.f_K.Most, .int .i64 o.f_K.Bits] rfl rfl ?_ | (refine pN_neq_s ?_ ?_ <;> intro hc <;> try (exfalso; first | omega | exact hc rfl | exact hc (by assumption) | exact absurd hc (by assumption))) | refine pIf_f ?_ | refine pN_ld1 ha hS ?_ | (refine pDr_go hS ?_; clear hS; intro w hS) | refine pN_ixk hS _ (by first | rfl | (exact (Int.toNat_of_nonneg (by omega)).symm)) (by first | rfl | omega | simpa only [go_sem] using True.intro | (simp only [go_sem]; omega)) (by assumption) fun a ha hel => ?_ | refine pA_v (hk := ?_) | fail)
      refine pc_pithlaw36_listed (llisted_ok (k := kutV o.f_K) (sl := s1) (its := l1) hk hG hS (fun x hx => ⟨by haveI := (g5 x hx).1; infer_instance, by have := g5 x hx; omega⟩) hw htw (by omega) (by omega) ?_)
      clear hS
      intro sb w hS
      refine ⟨⟨run_la_at (n := 3) hS [.int .i64 o.f_K.Least, .int .i64 o.f_K.Most, .int .i64 o.f_K.Bits] rfl rfl, trivial⟩, ?_⟩
      refine pc_pithlaw36_pieces (lpieces_ok (k := kutV o.f_K) (s := sb) (l := S.list (kutV o.f_K) (S.sort l1)) hk hS (by omega) ?_)
      clear hS
      intro sc w hS
      rw [← List.append_assoc]
      generalize C.pieces (kutV o.f_K) (S.list (kutV o.f_K) (S.sort l1)) = PL at *
      refine ⟨trivial, ?_⟩
      refine pN_app (C := cd_string) (l := A0) (s2 := sc) (m := PL) hS rfl rfl (by omega) ?_
      clear hS
      intro sd w hS
      refine ⟨trivial, ?_⟩
      dsimp only
      have hAl : (A0 ++ PL).length ≤ 1 + j * 2199023255552 + 1099511627776 := by rw [List.length_append]; omega
      generalize A0 ++ PL = A1 at *
      repeat' (first | refine pN_v (hk := ?_) | fail)
      refine ⟨fun v v' w => ∃ (i : Nat) (so : Sl), i ≤ l1.length ∧ v = .slice so.a (A1 ++ S.datas (kutV o.f_K) (l1.take i)).length so.c ∧ v' = .int .i64 i ∧ Sat E w (rows cd_string so (A1 ++ S.datas (kutV o.f_K) (l1.take i)) :: cel ob ⟨29, o.enc⟩ :: M), fun _ v _ => l1.length - (RowKit.intOf v).toNat,
        ⟨0, sd, by omega, by rw [List.take_zero, S.datas_0, List.append_nil], rfl, by rw [List.take_zero, S.datas_0, List.append_nil]; exact hS.to⟩, ?_⟩
      clear hS
      rintro _ _ _ w ⟨i, so, hi, rfl, rfl, hS⟩
      by_cases hlt2 : i < l1.length
      · obtain ⟨x, hx⟩ : ∃ x, l1[i]? = some x := ⟨l1[i], by simp [hlt2]⟩
        obtain ⟨q1, q2, _⟩ := g5 x (List.mem_of_getElem? hx)
        haveI := q1
        have hnx := S.datas_take (k := kutV o.f_K) hx
        have hd1 := hdti i
        have hd2 := C.pieces_len (kutV o.f_K) x.Data.2
        have hnl : (A1 ++ S.datas (kutV o.f_K) (l1.take i)).length = A1.length + (S.datas (kutV o.f_K) (l1.take i)).length := List.length_append
        repeat' (first | refine pN_la_at (n := 3) hS [.int .i64 o.f_K.Least, .int .i64 o.f_K.Most, .int .i64 o.f_K.Bits] rfl rfl ?_ | (refine pN_lss_s ?_ ?_ <;> intro hc <;> try (exfalso; omega)) | refine pIf_t ?_ | refine pN_l hS (by first | rfl | assumption) ?_ | refine pN_ld_at ha hS (by rfl) ?_ | (refine pN_sa hS (by rfl) (by rfl) (by rfl) ?_; clear hS; intro w hS; try dsimp only at hS) | (refine pN_nz hS ?_; clear hS; intro a w hS) | refine pN_ixk hS _ (by first | rfl | (exact (Int.toNat_of_nonneg (by omega)).symm)) (by first | rfl | omega | simpa only [go_sem] using True.intro | (simp only [go_sem]; omega)) (by assumption) fun a ha hel => ?_ | refine pN_v (hk := ?_) | fail)
        refine pc_pithlaw36_pieces (lpieces_ok (k := kutV o.f_K) (s := x.Data.1) (l := x.Data.2) hk hS (by omega) ?_)
        clear hS
        intro se w hS
        refine pN_app (C := cd_string) (l := A1 ++ S.datas (kutV o.f_K) (l1.take i)) (s2 := se) (m := C.pieces (kutV o.f_K) x.Data.2) hS rfl rfl (by omega) ?_
        clear hS
        intro sf w hS
        rw [List.append_assoc, ← hnx] at hS ⊢
        repeat' (first | refine pN_v (hk := ?_) | fail)
        exact ⟨⟨i + 1, sf, by omega, rfl, rfl, hS.to⟩, by simp [RowKit.intOf] <;> omega⟩
      · obtain rfl : i = l1.length := by omega
        rw [List.take_length] at hS ⊢
        repeat' (first | (refine pN_lss_s ?_ ?_ <;> intro hc <;> try (exfalso; omega)) | refine pIf_f ?_ | fail)
        exact ⟨so, rfl, hS.to⟩
    · clear hS
      rintro _ _ w ⟨so, rfl, hS⟩
      repeat' (first | refine pN_v (hk := ?_) | fail)
      refine ⟨⟨j + 1, so, by omega, by rw [hut], rfl, ?_, by rw [hut]; exact hS⟩, by simp [RowKit.intOf] <;> omega⟩
      rw [hut, List.length_append, List.length_append]
      omega
  · obtain rfl : j = ll.length := by omega
    have e1 : (ll.map (·.2)).take ll.length = ll.map (·.2) := by rw [← List.length_map (f := (·.2)), List.take_length]
    rw [e1] at hS hul ⊢
    clear e1
    have hsm : ∀ q ∈ S.univ (kutV o.f_K) (ll.map (·.2)), q.length ≤ 1099511627776 := univ_le (fun l hl => by
      obtain ⟨p, hp, rfl⟩ := List.mem_map.1 hl
      obtain ⟨_, _, _, h3, h4⟩ := hd p hp
      exact ⟨h3, fun x hx => by have := (h4 x hx).2.1; omega⟩)
    generalize S.univ (kutV o.f_K) (ll.map (·.2)) = all at *
    repeat' (first | (refine pN_mkm hS idV ?_; intro bm w hS) | (refine pN_lss_s ?_ ?_ <;> intro hc <;> try (exfalso; omega)) | refine pIf_f ?_ | refine pN_v (hk := ?_) | fail)
    refine ⟨fun v w => ∃ (i : Nat) (l : List (I32 × List UInt8)), v = .int .i64 i ∧ i ≤ all.length ∧ seen all i l ∧ Sat E w (mp idV bm (svs l) :: rows cd_string so all :: cel ob ⟨29, o.enc⟩ :: M), fun v _ => all.length - (RowKit.intOf v).toNat, ⟨0, [], rfl, by omega, fun p hp => by simp at hp, hS⟩, ?_⟩
    clear hS
    rintro _ _ w ⟨i, l, rfl, hi, hsn, hS⟩
    by_cases hlt2 : i < all.length
    · obtain ⟨q, hq⟩ : ∃ q, all[i]? = some q := ⟨all[i], by simp [hlt2]⟩
      have hql := hsm q (List.mem_of_getElem? hq)
      have hgt := svs_get l (H.sum q)
      repeat' (first | (refine pN_tobs hS (by unfold maxLen; omega) ?_; clear hS; intro s6 w hS) | (refine pN_b1 (x := (s6, q)) hS rfl (by decide) ?_; clear hS; intro s7 w hS) | (refine pc_sha_Sum (Sum_ok (l := q) (s1 := s6) hG hS (by omega) ?_); clear hS; intro w hS) | (refine pN_lss_s ?_ ?_ <;> intro hc <;> try (exfalso; omega)) | refine pIf_t ?_ | refine pN_ld1 ha hS ?_ | (refine pN_nz hS ?_; clear hS; intro a w hS) | refine pN_ixk hS _ (by first | rfl | (exact (Int.toNat_of_nonneg (by omega)).symm)) (by first | rfl | omega | simpa only [go_sem] using True.intro | (simp only [go_sem]; omega)) (by assumption) fun a ha hel => ?_ | fail)
      refine pN_sid hS (H.sum q) (by rfl) ?_
      clear hS
      intro w hS
      refine pN_la_at (n := 32) hS (bvs (H.sum q).l) (i32t _) (i32n _) ?_
      refine pN_lko (P := Tryz.prog) (t := 107) (ke := idV) (b := bm) hS (H.sum q) (fun v hv => ?_) (fun hv => ?_)
      · rw [hgt] at hv
        cases hlk : D.look l (H.sum q) with
        | none => rw [hlk] at hv; cases hv
        | some p =>
          rw [hlk] at hv
          have hv : sv p = v := Option.some.inj hv
          subst hv
          by_cases hpq : p = q
          · subst hpq
            have hn2 := seen_put hsn hq (fun p2 h2 => by rw [hlk] at h2; exact (Option.some.inj h2).symm)
            repeat' (first | refine pN_la_at (n := 32) hS (bvs (H.sum p).l) (i32t _) (i32n _) ?_ | (refine pN_neq_ss (l := p) (r := p) ?_ ?_ <;> intro hc <;> try (exact absurd rfl hc)) | (refine pN_mup (P := Tryz.prog) (t := 107) (ke := idV) (b := bm) hS (H.sum p) (sv p) ?_; clear hS; intro w hS) | refine pIf_f ?_ | refine pGd_go (by rfl) ?_ | refine pN_v (hk := ?_) | fail)
            rw [svs_put] at hS
            exact ⟨⟨i + 1, _, rfl, by omega, hn2, hS.to⟩, by simp [RowKit.intOf] <;> omega⟩
          · repeat' (first | (refine pN_neq_ss (l := p) (r := q) ?_ ?_ <;> intro hc <;> try (exact absurd hc hpq)) | refine pIf_t ?_ | refine pGd_go (by rfl) ?_ | refine pN_v (hk := ?_) | fail)
            exact hyes _ hS.to
      · rw [hgt] at hv
        cases hlk : D.look l (H.sum q) with
        | some p => rw [hlk] at hv; cases hv
        | none =>
          have hn2 := seen_put hsn hq (fun p2 h2 => by rw [hlk] at h2; cases h2)
          repeat' (first | refine pN_la_at (n := 32) hS (bvs (H.sum q).l) (i32t _) (i32n _) ?_ | (refine pN_mup (P := Tryz.prog) (t := 107) (ke := idV) (b := bm) hS (H.sum q) (sv q) ?_; clear hS; intro w hS) | refine pIf_f ?_ | refine pGd_no (by rfl) ?_ | refine pN_v (hk := ?_) | fail)
          rw [svs_put] at hS
          exact ⟨⟨i + 1, _, rfl, by omega, hn2, hS.to⟩, by simp [RowKit.intOf] <;> omega⟩
    · obtain rfl : i = all.length := by omega
      repeat' (first | (refine pN_lss_s ?_ ?_ <;> intro hc <;> try (exfalso; omega)) | refine pIf_f ?_ | fail)
      exact hno (seen_nc hsn) _ hS.to
end
end Go.Proofs.YtikmogfhhggafaaGreatDoor

namespace Go.Proofs.YtikmogfhhggafaaGreatDoor
open Go
namespace S
open D (B)

theorem look_saved {d : D.T} {U : List B} (hd : d.In U) (hc : D.NC U) {l : List It} (hU : ∀ p ∈ need d.k l, p ∈ U) (n : B) {p : B} (hp : p ∈ need d.k l) : D.look (saved d n l).ps (H.sum p) = some p := by
  rw [saved_puts]
  show D.look (d.puts _).ps _ = _
  unfold need at hU hp
  refine D.there_puts hc _ hd (fun q hq => hU q ?_) ?_
  · rcases List.mem_append.1 hq with hq | hq
    · exact List.mem_append.2 (.inr hq)
    · exact List.mem_append.2 (.inl hq)
  · rcases List.mem_append.1 hp with hp | hp
    · exact List.mem_append.2 (.inr hp)
    · exact List.mem_append.2 (.inl hp)
theorem saved_get {d : D.T} {U : List B} (hd : d.In U) (hc : D.NC U) {l : List It} (hU : ∀ p ∈ need d.k l, p ∈ U) (n : B) : (saved d n l).get (D.ids d.k (list d.k l)) = some (list d.k l) := by
  have h := D.get_ids (d := saved d n l) (b := list d.k l) fun p hp => look_saved hd hc hU n (by
    rw [saved_k] at hp
    exact List.mem_append.2 (.inl hp))
  rw [saved_k] at h
  exact h
theorem saved_dat {d : D.T} {U : List B} (hd : d.In U) (hc : D.NC U) {l : List It} (hU : ∀ p ∈ need d.k l, p ∈ U) (n : B) {x : It} (hx : x ∈ l) : (saved d n l).get (D.ids d.k x.Data.2) = some x.Data.2 := by
  have h := D.get_ids (d := saved d n l) (b := x.Data.2) fun p hp => look_saved hd hc hU n (by
    rw [saved_k] at hp
    exact List.mem_append.2 (.inr (List.mem_flatten.2 ⟨_, List.mem_map.2 ⟨x, hx, rfl⟩, hp⟩)))
  rw [saved_k] at h
  exact h
variable {k : C.K} {l m : List It} {U : List B}

end S
end Go.Proofs.YtikmogfhhggafaaGreatDoor

namespace Go.Proofs.YtikmogfhhggafaaGreatDoor
open Go

theorem putCells_take {α : Type} [Inhabited α] (enc : α → Value) (d : Array α) (c : Array Value) (h : d.size ≤ c.size) : (Sort.putCells enc 0 d c).toList.take d.size = d.toList.map enc := by
  refine List.ext_getElem? fun i => ?_
  by_cases hi : i < d.size
  · have h2 : i < c.size := by omega
    rw [List.getElem?_take_of_lt hi, List.getElem?_map, Array.getElem?_toList, Array.getElem?_toList]
    simp [Sort.putCells, hi, h2]
  · rw [List.getElem?_eq_none (by rw [List.length_take]; omega), List.getElem?_eq_none (by simpa using hi)]
theorem putCells_size {α : Type} [Inhabited α] (enc : α → Value) (d : Array α) (c : Array Value) : (Sort.putCells enc 0 d c).size = c.size := by simp [Sort.putCells]
theorem flatK_flat {α : Type} [Inhabited α] (C : Cd α) (l : List α) : (Sort.flatK C.enc C.size l.toArray).toList = C.flat l := by
  refine List.ext_getElem? fun t => ?_
  have hlen := C.flat_len l
  by_cases ht : t < l.length * C.size
  · have hs : 0 < C.size := Nat.pos_of_ne_zero fun e => by rw [e] at ht; omega
    have hi : t / C.size < l.length := (Nat.div_lt_iff_lt_mul hs).2 ht
    have hj : t % C.size < C.size := Nat.mod_lt _ hs
    have hx : l[t / C.size]? = some (l[t / C.size]'hi) := List.getElem?_eq_getElem hi
    have hg := C.flat_get l _ _ hx
    have hl := C.len (l[t / C.size]'hi)
    have e1 : (C.flat l)[t]? = (C.enc (l[t / C.size]'hi))[t % C.size]? := by
      rw [← hg, List.getElem?_take_of_lt hj, List.getElem?_drop, Nat.mul_comm, Nat.div_add_mod]
    have hjl : t % C.size < (C.enc (l[t / C.size]'hi)).length := by rw [hl]; exact hj
    rw [e1, Array.getElem?_toList, List.getElem?_eq_getElem hjl]
    simp [Sort.flatK, ht, hi, hjl]
  · rw [List.getElem?_eq_none (by simp [Sort.flatK]; omega), List.getElem?_eq_none (by rw [hlen]; omega)]

section
variable {α : Type} {C : Cd α} {E w w' : World} {M : List HA} {s : Sl} {l l2 : List α} {g : Nat}

theorem rows_blk (hS : Sat E w (rows C s l :: M)) (h0 : l ≠ []) : ∃ g cur, s.a = some ⟨g, 0, none⟩ ∧ w.heap[g]? = some (.cells cur C.e (0, 0)) ∧ l.length * C.size ≤ cur.size ∧ cur.toList.take (l.length * C.size) = C.flat l := by
  obtain ⟨h1, ⟨hl, h | ⟨g, cap, cur, hv, hg, hn, hm, hsz, ht⟩⟩, hs⟩ := hS.head
  · exact absurd (List.length_eq_zero_iff.1 h.2) h0
  · have e1 : s.a = some ⟨g, 0, none⟩ := by injection hv
    exact ⟨g, cur, e1, hs _ _ hg, by rw [hsz]; exact Nat.mul_le_mul_right _ hn, ht⟩
theorem rows_cell {cur : Array Value} (hw : w.heap[g]? = some (.cells cur C.e (0, 0))) {j : Nat} (hj : j < cur.size) : w.cell? ⟨g, j, none⟩ = cur[j]? ∧ w.frozen? ⟨g, j, none⟩ = false := by
  constructor
  · rw [cell_of_blk hw]
  · simp [World.frozen?, hw]

theorem Sat.put (hS : Sat E w (rows C s l :: M)) (ha : s.a = some ⟨g, 0, none⟩) (h0 : l ≠ []) {f : Array Value → Array Value} {n : Nat} {os : Array Obj} (hw : w' = Sort.grow (Sort.mapBlock (Sort.ahead w n) g f) os)
    (hl : l2.length = l.length) (hf : ∀ cur : Array Value, l.length * C.size ≤ cur.size → (f cur).size = cur.size ∧ (f cur).toList.take (l.length * C.size) = C.flat l2) : Sat E w' (rows C s l2 :: M) := by
  subst hw
  refine hS.turn rfl rfl rfl fun h1 hA s1 => ?_
  obtain ⟨_, h | ⟨g', cap, cur, hv, hg, hn, hm, hsz, ht⟩⟩ := hA
  · exact absurd (List.length_eq_zero_iff.1 h.2) h0
  · have e1 : s.a = some ⟨g', 0, none⟩ := by injection hv
    rw [ha] at e1
    obtain rfl : g = g' := by injection e1 with e; injection e
    have hlt : g < w.heap.size := (Array.getElem?_eq_some_iff.1 (s1 _ _ hg)).1
    obtain ⟨f1, f2⟩ := hf cur (by rw [hsz]; exact Nat.mul_le_mul_right _ hn)
    have hgh : (Sort.grow (Sort.mapBlock (Sort.ahead w n) g f) os).heap[g]? = some (.cells (f cur) C.e (0, 0)) := by
      rw [Sort.heap_grow_old _ _ (by simp [Sort.mapBlock, Sort.ahead]; exact hlt)]
      simp [Sort.mapBlock, Sort.ahead, Array.getElem?_modify, s1 _ _ hg, Sort.onCells]
    have hoth : ∀ k o, k ≠ g → w.heap[k]? = some o → (Sort.grow (Sort.mapBlock (Sort.ahead w n) g f) os).heap[k]? = some o := fun k o hk ho => by
      have hkl : k < w.heap.size := (Array.getElem?_eq_some_iff.1 ho).1
      rw [Sort.heap_grow_old _ _ (by simp [Sort.mapBlock, Sort.ahead]; exact hkl)]
      simp [Sort.mapBlock, Sort.ahead, Array.getElem?_modify, Ne.symm hk, ho]
    refine ⟨fun k => if k = g then some (.cells (f cur) C.e (0, 0)) else none, ⟨by rw [C.flat_len], .inr ⟨g, cap, f cur, by rw [hl]; exact hv, if_pos rfl, by rw [hl]; exact hn, hm, by rw [f1]; exact hsz, by rw [hl]; exact f2⟩⟩, ?_, ?_⟩
    · intro k o ek
      dsimp only at ek
      split at ek
      · rename_i hk; subst hk; cases ek; exact hgh
      · cases ek
    · intro k o ek hn1
      have hk : k ≠ g := fun e => by subst e; rw [hg] at hn1; cases hn1
      exact ⟨hoth k o hk ek, if_neg hk⟩
end

instance : Inhabited I32 := ⟨⟨List.replicate 32 0, by rw [List.length_replicate]⟩⟩

namespace S
theorem le_less : ∀ x y : List UInt8, decide (x ≤ y) = !Op.bytesLess y x
  | [], y => by
    have h : Op.bytesLess y [] = false := by cases y <;> rfl
    rw [h]; exact decide_eq_true (List.nil_le y)
  | a :: x, [] => by
    rw [show Op.bytesLess [] (a :: x) = true from rfl]
    exact decide_eq_false (fun h => h (List.nil_lt_cons a x))
  | a :: x, b :: y => by
    have ih := le_less x y
    have h1 : (a :: x ≤ b :: y) ↔ ¬ (b < a ∨ b = a ∧ y < x) := by
      show ¬ (b :: y < a :: x) ↔ _
      rw [List.cons_lt_cons_iff]
    have h2 := less_cons b a y x
    have h3 : Op.bytesLess y x = true ↔ y < x := by
      have h4 : decide (x ≤ y) = !Op.bytesLess y x := ih
      constructor
      · intro h
        rw [h] at h4
        exact Classical.not_not.1 (of_decide_eq_false h4)
      · intro h
        cases e : Op.bytesLess y x with
        | true => rfl
        | false => rw [e] at h4; exact absurd h (of_decide_eq_true h4)
    cases e : Op.bytesLess (b :: y) (a :: x) with
    | true =>
      refine decide_eq_false fun h => h1.1 h ?_
      rcases h2.1 e with h | ⟨h, h'⟩
      · exact .inl (UInt8.lt_iff_toNat_lt.2 h)
      · exact .inr ⟨h, h3.1 h'⟩
    | false =>
      refine decide_eq_true (h1.2 fun h => ?_)
      have : Op.bytesLess (b :: y) (a :: x) = true := h2.2 (by
        rcases h with h | ⟨h, h'⟩
        · exact .inl (UInt8.lt_iff_toNat_lt.1 h)
        · exact .inr ⟨h, h3.2 h'⟩)
      rw [e] at this; cases this
def sortN (l : List D.B) : List D.B := l.mergeSort fun x y => !Op.bytesLess y x
def lessI (a b : I32) : Bool := Op.bytesLess a.l b.l
def sortI (l : List I32) : List I32 := l.mergeSort fun x y => !lessI y x
theorem sortN_perm (l : List D.B) : (sortN l).Perm l := List.mergeSort_perm _ _
theorem sortI_perm (l : List I32) : (sortI l).Perm l := List.mergeSort_perm _ _
theorem lessI_ord : U.Ord lessI := ⟨fun x => less_irr _, fun x y z => less_tr _ _ _, fun x y z => less_nt _ _ _⟩
theorem lessI_tri {x y : I32} (h1 : lessI x y = false) (h2 : lessI y x = false) : x = y := by
  obtain ⟨x, hx⟩ := x
  obtain ⟨y, hy⟩ := y
  have := less_tri x y h1 h2
  subst this
  rfl
theorem sortN_up (l : List D.B) : U.Up Op.bytesLess (sortN l) := by
  have h := List.pairwise_mergeSort (le := fun x y : D.B => !Op.bytesLess y x) (fun a b c h1 h2 => by
    simp only [Bool.not_eq_true'] at h1 h2 ⊢
    exact less_ord.nt _ _ _ h2 h1) (fun a b => by
    cases h : Op.bytesLess b a with
    | false => simp
    | true => simp [less_ord.asym h]) l
  exact h.imp fun h => by simpa using h
theorem sortI_up (l : List I32) : U.Up lessI (sortI l) := by
  have h := List.pairwise_mergeSort (le := fun x y : I32 => !lessI y x) (fun a b c h1 h2 => by
    simp only [Bool.not_eq_true'] at h1 h2 ⊢
    exact lessI_ord.nt _ _ _ h2 h1) (fun a b => by
    cases h : lessI b a with
    | false => simp
    | true => simp [lessI_ord.asym h]) l
  exact h.imp fun h => by simpa using h
end S
end Go.Proofs.YtikmogfhhggafaaGreatDoor

namespace Go.Proofs.YtikmogfhhggafaaGreatDoor
open Go
def lays190_ren : Go.Shelf.Ren := ⟨fun | 190 => 107 | 125 => 105 | 258 => 145 | 128 => 143 | 129 => 144 | 302 => 188 | 303 => 189 | 304 => 190 | 305 => 191 | 306 => 192 | 307 => 193 | 308 => 194 | 309 => 195 | 310 => 196 | 333 => 209 | 329 => 184 | 330 => 185 | 334 => 210 | 335 => 211 | 336 => 212 | 344 => 220 | n => n, fun | 31 => 72 | 9 => 9 | 3 => 3 | 46 => 97 | 0 => 0 | 51 => 213 | 53 => 212 | 4 => 4 | 183 => 234 | 182 => 233 | 131 => 136 | 5 => 5 | 218 => 265 | 222 => 269 | 228 => 291 | 229 => 292 | n => n, fun | n => n⟩
theorem lays190 : Go.Proofs.Lays.n190 Tryz.prog lays190_ren := ⟨
  by kernel_rfl, Tryz.func105.trans (congrArg some (by kernel_rfl)), Tryz.func143.trans (congrArg some (by kernel_rfl)), Tryz.func144.trans (congrArg some (by kernel_rfl)), Tryz.func107.trans (congrArg some (by kernel_rfl)),
  Tryz.func145.trans (congrArg some (by kernel_rfl)), Tryz.func188.trans (congrArg some (by kernel_rfl)), Tryz.func189.trans (congrArg some (by kernel_rfl)), Tryz.func190.trans (congrArg some (by kernel_rfl)),
  Tryz.func191.trans (congrArg some (by kernel_rfl)), Tryz.func192.trans (congrArg some (by kernel_rfl)), Tryz.func193.trans (congrArg some (by kernel_rfl)), Tryz.func194.trans (congrArg some (by kernel_rfl)),
  Tryz.func195.trans (congrArg some (by kernel_rfl)), Tryz.func196.trans (congrArg some (by kernel_rfl)), Tryz.func184.trans (congrArg some (by kernel_rfl)), Tryz.func185.trans (congrArg some (by kernel_rfl)),
  Tryz.func209.trans (congrArg some (by kernel_rfl)), Tryz.func210.trans (congrArg some (by kernel_rfl)), Tryz.func211.trans (congrArg some (by kernel_rfl)), Tryz.func212.trans (congrArg some (by kernel_rfl)),
  Tryz.func220.trans (congrArg some (by kernel_rfl)), Tryz.underlying0, Tryz.isAgg0, Tryz.sizeOf0, Tryz.zeroValue0, Tryz.underlying3, Tryz.isAgg3, Tryz.sizeOf3, Tryz.zeroValue3, Tryz.underlying4, Tryz.isAgg4,
  Tryz.sizeOf4, Tryz.zeroValue4, Tryz.underlying5, Tryz.isAgg5, Tryz.sizeOf5, Tryz.zeroValue5, Tryz.underlying9, Tryz.isAgg9, Tryz.sizeOf9, Tryz.zeroValue9, Tryz.underlying72, Tryz.isAgg72, Tryz.sizeOf72,
  Tryz.zeroValue72, Tryz.underlying97, Tryz.isAgg97, Tryz.sizeOf97, Tryz.zeroValue97, Tryz.underlying213, Tryz.isAgg213, Tryz.sizeOf213, Tryz.zeroValue213, Tryz.underlying212, Tryz.isAgg212, Tryz.sizeOf212,
  Tryz.zeroValue212, Tryz.underlying136, Tryz.isAgg136, Tryz.sizeOf136, Tryz.zeroValue136, Tryz.underlying233, Tryz.isAgg233, Tryz.sizeOf233, Tryz.zeroValue233, Tryz.underlying234, Tryz.isAgg234, Tryz.sizeOf234,
  Tryz.zeroValue234, Tryz.underlying265, Tryz.isAgg265, Tryz.sizeOf265, Tryz.zeroValue265, Tryz.underlying269, Tryz.isAgg269, Tryz.sizeOf269, Tryz.zeroValue269, Tryz.underlying291, Tryz.isAgg291, Tryz.sizeOf291,
  Tryz.zeroValue291, Tryz.underlying292, Tryz.isAgg292, Tryz.sizeOf292, Tryz.zeroValue292⟩
end Go.Proofs.YtikmogfhhggafaaGreatDoor

namespace Go.Proofs.YtikmogfhhggafaaGreatDoor
open Go
attribute [local irreducible] oMv oV oU oCall oCallV oBi oBin oUn oLoad oStore oNil oFld oField oIdx oIndex oPick oAlloc oBox oBuild oBs oConv oMk oSl oExt oFn oIface oMap oLook oMapUp oRange oNext oEntry oInv oAssert oPanic oRes pN pA pL pDr pIf gA pGd Calls
section
variable [Pan] {E w : World} {Q : Value → World → Prop} {M : List HA} {s : Sl}

theorem SortN_ok {l : List (List UInt8)} (hS : Sat E w (rows cd_string s l :: M)) (hl : l.length ≤ 1099511627776) (hQ : ∀ w, Sat E w (rows cd_string s (S.sortN l) :: M) → Q (.tuple #[]) w) :
    Calls Tryz.prog 107 #[.slice s.a l.length s.c] w (retP Q) := by
  by_cases h0 : l = []
  · subst h0
    refine (Any.slices_Sort_string_none lays190 s.a s.c w).mono ?_
    rintro e w' ⟨rfl, rfl⟩
    rw [(S.sortN_perm []).eq_nil] at hQ
    exact hQ _ hS
  · obtain ⟨g, cur, ha, hg, hsz, ht⟩ := rows_blk hS h0
    have hC : cd_string.size = 1 := rfl
    have hf : cd_string.flat l = l.map encStr := Cd.flat_single cd_string encStr (fun _ => rfl) l
    rw [hC, Nat.mul_one] at hsz ht
    rw [hf] at ht
    have hH : Sort.Holds encStr w g 0 l.toArray := fun j hj => by
      have hj : j < l.length := by simpa using hj
      obtain ⟨c1, c2⟩ := rows_cell hg (j := j) (by omega)
      rw [Nat.zero_add]
      refine ⟨?_, c2⟩
      have h1 : cur.toList[j]? = some (encStr l[j]) := by
        rw [← List.getElem?_take_of_lt hj, ht, List.getElem?_map, List.getElem?_eq_getElem hj]; rfl
      rw [c1, ← Array.getElem?_toList, h1]
      simp [hj]
    rw [ha]
    refine (Any.slices_Sort_string lays190 g 0 s.c l w hH (Array.getElem?_eq_some_iff.1 hg).1 (by omega)).mono ?_
    rintro e w' ⟨rfl, n, os, rfl⟩
    have hso : (l.mergeSort fun x y => decide (x ≤ y)) = S.sortN l := by
      unfold S.sortN
      congr 1
      funext x y
      exact S.le_less x y
    have hp := S.sortN_perm l
    refine hQ _ (hS.put (g := g) (n := n) (os := os) (f := Sort.putCells encStr 0 (S.sortN l).toArray) ha h0 (by rw [hso]; rfl) hp.length_eq fun c hc => ⟨putCells_size .., ?_⟩)
    rw [hC, Nat.mul_one] at hc ⊢
    rw [Cd.flat_single cd_string encStr (fun _ => rfl)]
    have := putCells_take encStr (S.sortN l).toArray c (by simpa [hp.length_eq] using hc)
    simpa [hp.length_eq] using this
end
end Go.Proofs.YtikmogfhhggafaaGreatDoor

namespace Go.Proofs.YtikmogfhhggafaaGreatDoor
open Go
def wRng (b r : Nat) (w : World) : Nat := match w.heap[r]?, w.heap[b]? with
  | some (.mapIter _ _ seen _), some (.map es _) => (es.toList.filter fun e => !seen.contains e.born).length
  | _, _ => 0
theorem wRng_eq {κ : Type} {ke : κ → Value} {E w : World} {L M : List HA} {b r : Nat} {x : Rng κ} (hS : Sat E w L) [h : Fnd (mrng ke b r) L x M] : wRng b r w = x.left.length := by
  obtain ⟨hh, ⟨es, clock, seen, hb, hr, hs, he, hl, hcur⟩, hsub, _⟩ := (hS.fd (mrng ke b r)).sats
  have h1 : w.heap[b]? = some (.map es clock) := hsub _ _ hb
  have h2 : w.heap[r]? = some (.mapIter (some b) clock seen clock) := hsub _ _ hr
  unfold wRng
  rw [h1, h2]
  simp only
  have := congrArg List.length hl
  simpa [eks, kvs] using this
theorem pN_extn [Pan] {P : Program} {w : World} {K : Value → World → Prop} {vs : Array Value} {i : Nat} {v : Value} (h : vs[i]? = some v) (hk : K v w) : pN P (oExt (.tuple vs) i) w K := by rw [pN_def, run_ext vs i h, rN_value]; exact hk
theorem erase_perm {α : Type} : ∀ {l : List α} {i : Nat} {x : α}, l[i]? = some x → (x :: l.eraseIdx i).Perm l
  | [], i, x, h => by simp at h
  | a :: l, 0, x, h => by
    simp at h
    subst h
    exact List.Perm.refl _
  | a :: l, i + 1, x, h => by
    have h' : l[i]? = some x := by simpa using h
    exact (List.Perm.swap a x _).trans ((erase_perm h').cons a)
namespace D
def T.sums (d : T) : List I32 := S.sortI (d.ps.map (·.1))
def T.names (d : T) : List B := S.sortN (d.ns.map (·.1))
theorem vals_keys {κ α : Type} (l : List (κ × (Sl × List α))) : (vals l).map (·.1) = l.map (·.1) := by
  unfold vals
  rw [List.map_map]; rfl
end D
theorem sortN_perm_eq {l m : List (List UInt8)} (h : l.Perm m) : S.sortN l = S.sortN m := by
  have h1 : (S.sortN l).Perm (S.sortN m) := (S.sortN_perm l).trans (h.trans (S.sortN_perm m).symm)
  exact List.Perm.eq_of_pairwise (le := fun x y => Op.bytesLess y x = false) (fun a b _ _ h1 h2 => S.less_tri a b h2 h1) (S.sortN_up l) (S.sortN_up m) h1
theorem sortI_perm_eq {l m : List I32} (h : l.Perm m) : S.sortI l = S.sortI m := by
  have h1 : (S.sortI l).Perm (S.sortI m) := (S.sortI_perm l).trans (h.trans (S.sortI_perm m).symm)
  exact List.Perm.eq_of_pairwise (le := fun x y => S.lessI y x = false) (fun a b _ _ h1 h2 => S.lessI_tri h2 h1) (S.sortI_up l) (S.sortI_up m) h1
attribute [local irreducible] oMv oV oU oCall oCallV oBi oBin oUn oLoad oStore oNil oFld oField oIdx oIndex oPick oAlloc oBox oBuild oBs oConv oMk oSl oExt oFn oIface oMap oLook oMapUp oRange oNext oEntry oInv oAssert oPanic oRes pN pA pL pDr pIf gA pGd Calls
section
variable [Pan] {E w W : World} {K Q : Value → World → Prop} {L M N N' : List HA} {s s2 : Sl} {c : T_api_Config} {b : Nat} {d : D.T} {li : List I32}

set_option maxHeartbeats 1000000 in
theorem DNames_ok (hS : Sat E w L) [hf : Fnd (Dep c b) L d N] (hl : d.ns.length ≤ 1099511627776) (hQ : ∀ s w, Sat E w (rows cd_string s d.names :: Dep c b d :: N) → Q (.slice s.a d.names.length s.c) w) :
    Calls Tryz.prog 74 #[.pointer (some ⟨b, 0, none⟩)] w (retP Q) := by
  refine depot_Depot_Names.calls ?_
  unfold depot_Depot_Names.F
  have hS1 := hS.fd (Dep c b)
  clear hS hf
  obtain ⟨mb, nb, pl, nl, ht, hS⟩ := Dep.opn hS1
  clear hS1
  have hkeys : (nl.map (·.1)).map (·.1) = d.ns.map (·.1) := by rw [ht.ns, List.map_map, List.map_map]; rfl
  have hnl : nl.length ≤ 1099511627776 := by rw [ht.ns, List.length_map] at hl; exact hl
  repeat' (first | (refine pN_rng (P := Tryz.prog) (t := 127) (ke := nke) (b := nb) hS ?_; clear hS; intro r w hS) | refine pN_l hS (by first | rfl | assumption) ?_ | refine pN_v (hk := ?_) | fail)
  refine ⟨fun v w => ∃ (got : List NKey) (left : List (NKey × Value)) (cur : Option (NKey × Value)) (so : Sl), v = .slice so.a (got.map (·.1)).length so.c ∧ (got ++ left.map (·.1)).Perm (nl.map (·.1)) ∧
    Sat E w (rows cd_string so (got.map (·.1)) :: mrng nke nb r ⟨vals nl, left, cur⟩ :: cel b ⟨129, depC c d.k mb nb⟩ :: mp idV mb (vals pl) :: bag (keep cd_uint8 pl) :: bag (keep (cdI 58) nl) :: N), fun _ w => wRng nb r w,
    ⟨[], vals nl, none, ⟨none, 0⟩, rfl, by rw [List.nil_append, D.vals_keys], ?_⟩, ?_⟩
  · have h8 : Sat E w (rows cd_string ⟨none, 0⟩ [] :: _) := hS.nil cd_string.e cd_string.size
    have h9 : Sat E w (rows cd_string ⟨none, 0⟩ [] :: mrng nke nb r ⟨vals nl, vals nl, none⟩ :: cel b ⟨129, depC c d.k mb nb⟩ :: mp idV mb (vals pl) :: bag (keep cd_uint8 pl) :: bag (keep (cdI 58) nl) :: N) := h8.to
    exact h9
  clear hS
  rintro _ _ w ⟨got, left, cur, so, rfl, hp, hS⟩
  have hms := wRng_eq (ke := nke) (b := nb) (r := r) hS
  have hgl := hp.length_eq
  rw [List.length_append, List.length_map, List.length_map] at hgl
  refine pN_nxt (ke := nke) (b := nb) (r := r) hS (fun h0 => ?_) (fun i pp w hi hS => ?_)
  · have h0 : left = [] := h0
    subst h0
    rw [List.map_nil, List.append_nil] at hp
    have hml : (got.map (·.1)).length ≤ 1099511627776 := by rw [List.length_map]; simp only [List.length_nil] at hgl; omega
    refine pN_extn rfl ?_
    refine pIf_f ?_
    have hS2 := mrng_end (ke := nke) (b := nb) (r := r) hS
    have hS : Sat E w (rows cd_string so (got.map (·.1)) :: depP c b d.k mb nb pl nl N) := hS2.to
    have hnm : S.sortN (got.map (·.1)) = d.names := by
      unfold D.T.names
      rw [← hkeys]
      exact sortN_perm_eq (hp.map _)
    have hnl2 : (got.map (·.1)).length = d.names.length := by rw [← hnm]; exact (S.sortN_perm _).length_eq.symm
    refine pc_slices_Sort___string_string_ (SortN_ok hS hml ?_)
    rw [hnm, hnl2]
    clear hS hS2
    intro w hS
    have hS : Sat E w (depP c b d.k mb nb pl nl (rows cd_string so d.names :: N)) := hS.to
    exact hQ _ _ (Dep.shut ht rfl hS).to
  · have hi : left[i]? = some pp := hi
    have hpe := erase_perm hi
    have hll := hpe.length_eq
    rw [List.length_cons] at hll
    have hml : (got.map (·.1)).length = got.length := List.length_map ..
    have hgs : ((got ++ [pp.1]).map (·.1)) = got.map (·.1) ++ [pp.1.1] := by rw [List.map_append]; rfl
    have hp2 : ((got ++ [pp.1]) ++ (left.eraseIdx i).map (·.1)).Perm (nl.map (·.1)) := by
      rw [List.append_assoc]
      exact ((hpe.map (·.1)).append_left got).trans hp
    repeat' (first | (refine pN_ent (ke := nke) (b := nb) (r := r) (p := pp) hS rfl ?_) | refine pIf_t ?_ | (refine pN_b1 hS (by rfl) (by decide) ?_; clear hS; intro s w hS) | (refine pN_app hS (by first | rfl | omega | simpa only [go_sem] using True.intro | (simp only [go_sem]; omega)) (by first | rfl | omega | simpa only [go_sem] using True.intro | (simp only [go_sem]; omega)) (by first | omega | (simp only [go_sem]; omega)) ?_; clear hS; intro s w hS) | refine pN_v (hk := ?_) | fail)
    rw [← hgs] at hS ⊢
    have hS : Sat E w (rows cd_string s ((got ++ [pp.1]).map (·.1)) :: mrng nke nb r ⟨vals nl, left.eraseIdx i, some pp⟩ :: cel b ⟨129, depC c d.k mb nb⟩ :: mp idV mb (vals pl) :: bag (keep cd_uint8 pl) :: bag (keep (cdI 58) nl) :: N) := hS.to
    refine ⟨⟨got ++ [pp.1], left.eraseIdx i, some pp, s, by first | rfl | (rw [hgs, List.length_append]; rfl), hp2, hS⟩, ?_⟩
    dsimp only
    rw [wRng_eq (ke := nke) (b := nb) (r := r) hS, hms]
    show (left.eraseIdx i).length < left.length
    omega
end
end Go.Proofs.YtikmogfhhggafaaGreatDoor

namespace Go.Proofs.YtikmogfhhggafaaGreatDoor
open Go
set_option maxRecDepth 100000
namespace H
def fw {α : Type} (x : W) (f : W → α) : α := match x.toNat with
  | 0 => f (BitVec.ofNat 32 0)
  | n + 1 => f (BitVec.ofNat 32 (n + 1))
theorem fw_eq {α : Type} (x : W) (f : W → α) : fw x f = f x := by
  have e : BitVec.ofNat 32 x.toNat = x := by rw [BitVec.ofNat_toNat, BitVec.setWidth_eq]
  unfold fw
  split
  · rename_i h; rw [h] at e; rw [e]
  · rename_i n h; rw [h] at e; rw [e]
def fl {α : Type} : List W → (List W → α) → α
  | [], f => f []
  | x :: l, f => fw x fun y => fl l fun m => f (y :: m)
theorem fl_eq {α : Type} : ∀ (l : List W) (f : List W → α), fl l f = f l
  | [], _ => rfl
  | x :: l, f => by rw [fl, fw_eq, fl_eq l]
def wk {α : Type} (blk : List UInt8) : Nat → (List W → α) → α
  | 0, f => f (List.replicate 64 0)
  | t + 1, f => wk blk t fun w => fw (word blk w t) fun x => fl (w.set t x) f
theorem wk_eq {α : Type} (blk : List UInt8) : ∀ (t : Nat) (f : List W → α), wk blk t f = f (words blk t)
  | 0, _ => rfl
  | t + 1, f => by rw [wk, wk_eq blk t, fw_eq, fl_eq, words]
def rk {α : Type} (s w : List W) : Nat → (List W → α) → α
  | 0, f => f s
  | t + 1, f => rk s w t fun r => fl (round r (nth consts t) (nth w t)) f
theorem rk_eq {α : Type} (s w : List W) : ∀ (t : Nat) (f : List W → α), rk s w t f = f (rounds s w t)
  | 0, _ => rfl
  | t + 1, f => by rw [rk, rk_eq s w t, fl_eq, rounds]
def stepK (s : List W) (blk : List UInt8) : List UInt8 := wk blk 64 fun w => rk s w 64 fun r => fl (added r s 8) outs
theorem stepK_eq (s : List W) (blk : List UInt8) : outs (step s blk) = stepK s blk := by rw [stepK, wk_eq, rk_eq, fl_eq, step]
def abc : List UInt8 := [97, 98, 99]
def abcS : List UInt8 := [186, 120, 22, 191, 143, 1, 207, 234, 65, 65, 64, 222, 93, 174, 34, 35, 176, 3, 97, 163, 150, 23, 122, 156, 180, 16, 255, 97, 242, 0, 21, 173]
def abcB : List UInt8 := [97, 98, 99, 128, 0, 0, 0, 0, 0, 0, 0, 0, 0, 0, 0, 0, 0, 0, 0, 0, 0, 0, 0, 0, 0, 0, 0, 0, 0, 0, 0, 0, 0, 0, 0, 0, 0, 0, 0, 0, 0, 0, 0, 0, 0, 0, 0, 0, 0, 0, 0, 0, 0, 0, 0, 0, 0, 0, 0, 0, 0, 0, 0, 24]
def lst : List UInt8 := [2, 1, 237, 3, 7, 1, 100, 0, 164, 3, 0, 1, 120, 1] ++ abcS
def lstB : List UInt8 := lst ++ [128, 0, 0, 0, 0, 0, 0, 0, 0, 0, 0, 0, 0, 0, 0, 0, 1, 112]
theorem abc_blk : raw abc = outs (step first abcB) := by decide +kernel
theorem abc_k : stepK first abcB = abcS := by decide +kernel
theorem abc_raw : raw abc = abcS := (abc_blk.trans (stepK_eq first abcB)).trans abc_k
theorem lst_blk : raw lst = outs (step first lstB) := by decide +kernel
theorem lst_k : stepK first lstB ≠ abcS := by decide +kernel
theorem lst_raw : raw lst ≠ abcS := fun e => lst_k (((lst_blk.trans (stepK_eq first lstB)).symm).trans e)
theorem abc_sum : (sum abc).l = abcS := abc_raw
theorem lst_ne : sum abc ≠ sum lst := fun e => lst_raw (by rw [← abc_raw]; exact (congrArg (fun i : I32 => i.l) e).symm)
end H
end Go.Proofs.YtikmogfhhggafaaGreatDoor

namespace Go.Proofs.YtikmogfhhggafaaGreatDoor
open Go
namespace S
def kx (s : Sl) : It := ⟨[120], [], 0, 420, 0, (s, H.abc)⟩
def ky : It := ⟨[100], [], 1, 493, 7, (⟨none, 0⟩, [])⟩
def one : NKey := ⟨[111, 110, 101], by decide⟩
def bad : NKey := ⟨[98, 97, 100], by decide⟩
def U0 : List D.B := [H.abc, H.lst]
theorem kx_ok (s : Sl) : A.wrong (kx s) = 0 := rfl
theorem ky_ok : A.wrong ky = 0 := rfl
theorem kxy_sort (s : Sl) : sort [kx s, ky] = [ky, kx s] ∧ twice (sort [kx s, ky]) = false := by
  have hr : Rise [ky, kx s] := List.pairwise_cons.2 ⟨fun y hy => by
    obtain rfl : y = kx s := by simpa using hy
    rfl, List.pairwise_singleton _ _⟩
  obtain ⟨h1, h2⟩ := rise_sort (G := [ky, kx s]) (l := [kx s, ky]) (List.Perm.swap _ _ _) hr
  exact ⟨h1.symm, h2⟩
theorem kxx_twice (s : Sl) : twice (sort [kx s, kx s]) = true := by
  cases h : twice (sort [kx s, kx s]) with
  | true => rfl
  | false =>
    have := (sort_nodup _).1 h
    simp [List.nodup_cons] at this
theorem nc0 : D.NC U0 := by
  intro p hp q hq h
  have hp : p = H.abc ∨ p = H.lst := by simpa [U0] using hp
  have hq : q = H.abc ∨ q = H.lst := by simpa [U0] using hq
  rcases hp with rfl | rfl <;> rcases hq with rfl | rfl
  · rfl
  · exact absurd h H.lst_ne
  · exact absurd h.symm H.lst_ne
  · rfl
theorem abc_pieces : C.pieces uK H.abc = [H.abc] := C.pieces_one (by decide) (by decide)
theorem lst_pieces : C.pieces uK H.lst = [H.lst] := C.pieces_one (by decide) (by decide)
theorem kxy_list (s : Sl) : list uK [ky, kx s] = H.lst := by
  have h0 : D.ids uK H.abc = [H.sum H.abc] := by rw [D.ids, abc_pieces]; rfl
  have h1 : L.row (en uK ky) = [1, 237, 3, 7, 1, 100] := rfl
  have h2 : L.row (en uK (kx s)) = [0, 164, 3, 0, 1, 120, 1] ++ H.abcS := by
    have e : L.row (en uK (kx s)) = byteOf 0 :: (C.put (420 : Int).toNat ++ (C.put (0 : Int).toNat ++ (L.text [120] ++ (C.put (D.ids uK H.abc).length ++ L.flat (D.ids uK H.abc))))) := by
      unfold L.row L.tail
      rw [if_pos (show (en uK (kx s)).kind = 0 from rfl)]
      rfl
    have e3 : (C.put (420 : Int).toNat) = [164, 3] := rfl
    have e4 : (C.put (0 : Int).toNat) = [0] := rfl
    have e5 : L.text [120] = [1, 120] := rfl
    have e6 : C.put 1 = [1] := rfl
    have e2 : L.flat [H.sum H.abc] = (H.sum H.abc).l := by unfold L.flat; simp
    rw [e, h0, List.length_singleton, e2, H.abc_sum, e3, e4, e5, e6]
    rfl
  show C.put 2 ++ (L.row (en uK ky) ++ (L.row (en uK (kx s)) ++ [])) = H.lst
  rw [h1, h2, List.append_nil]
  rfl
def kd (s : Sl) : D.T := saved (D.new uK) one.1 [ky, kx s]
theorem kd_need (s : Sl) : ∀ p ∈ need uK [ky, kx s], p ∈ U0 := by
  intro p hp
  unfold need at hp
  rw [kxy_list, lst_pieces] at hp
  have e : ([ky, kx s].map fun x => C.pieces uK x.Data.2).flatten = [H.abc] := by
    show C.pieces uK [] ++ (C.pieces uK H.abc ++ []) = _
    rw [C.pieces_nil, abc_pieces]; rfl
  rw [e] at hp
  have : p = H.lst ∨ p = H.abc := by simpa using hp
  rcases this with rfl | rfl <;> simp [U0]
theorem kd_tells (s : Sl) : Tells (kd s) one.1 ([ky, kx s].map (en uK)) [H.sum H.lst] := by
  have h := saved_tells (d := D.new uK) (U := U0) (l := [ky, kx s]) (D.in_new uK U0) nc0 (fun x hx => by
    have : x = ky ∨ x = kx s := by simpa using hx
    rcases this with rfl | rfl
    · exact ky_ok
    · exact kx_ok s) (by rw [← (kxy_sort s).1]; exact rise_of (sort_up _) (kxy_sort s).2) (by simp) (kd_need s) one.1
  have e : D.ids (D.new uK).k (list (D.new uK).k [ky, kx s]) = [H.sum H.lst] := by
    show (C.pieces uK (list uK [ky, kx s])).map H.sum = _
    rw [kxy_list, lst_pieces]; rfl
  rw [e] at h
  exact h
theorem kd_get (s : Sl) : (kd s).get [H.sum H.lst] = some H.lst := by
  have h := saved_get (d := D.new uK) (U := U0) (l := [ky, kx s]) (D.in_new uK U0) nc0 (kd_need s) one.1
  have e : D.ids (D.new uK).k (list (D.new uK).k [ky, kx s]) = [H.sum H.lst] := by
    show (C.pieces uK (list uK [ky, kx s])).map H.sum = _
    rw [kxy_list, lst_pieces]; rfl
  have e2 : list (D.new uK).k [ky, kx s] = H.lst := kxy_list s
  rw [e, e2] at h
  exact h
theorem kd_abc (s : Sl) : (kd s).get [H.sum H.abc] = some H.abc := by
  have h := saved_dat (d := D.new uK) (U := U0) (l := [ky, kx s]) (D.in_new uK U0) nc0 (kd_need s) one.1 (x := kx s) (by simp)
  have e : D.ids (D.new uK).k (kx s).Data.2 = [H.sum H.abc] := by
    show (C.pieces uK H.abc).map H.sum = _
    rw [abc_pieces]; rfl
  rw [e] at h
  exact h
theorem kd_names (s : Sl) : (kd s).names = [one.1] := by
  have h : (kd s).ns = [(one.1, [H.sum H.lst])] := by
    unfold kd
    rw [saved_puts]
    have e : D.ids (D.new uK).k (list (D.new uK).k [ky, kx s]) = [H.sum H.lst] := by
      show (C.pieces uK (list uK [ky, kx s])).map H.sum = _
      rw [kxy_list, lst_pieces]; rfl
    rw [e]
    unfold D.T.set
    rw [if_neg (by simp)]
    show D.upd (D.T.puts _ _).ns _ _ = _
    rw [D.puts_ns]
    rfl
  unfold D.T.names
  rw [h]
  exact List.perm_singleton.1 (sortN_perm _)
theorem k_save (s : Sl) : save (D.new uK) one.1 [kx s, ky] = (0, kd s) := by
  have hw : werr [kx s, ky] = 0 := werr_0 fun y hy => by
    rcases List.mem_cons.1 hy with rfl | hy
    · exact kx_ok s
    · obtain rfl := List.mem_singleton.1 hy
      exact ky_ok
  unfold save
  rw [if_neg (by decide), if_neg (fun h => h hw), if_neg (by rw [(kxy_sort s).2]; decide), (kxy_sort s).1]
  rfl
theorem k_bad (s : Sl) (d : D.T) : save d bad.1 [kx s, kx s] = (9, d) := by
  have hw : werr [kx s, kx s] = 0 := werr_0 fun y hy => by
    rcases List.mem_cons.1 hy with rfl | hy
    · exact kx_ok s
    · obtain rfl := List.mem_singleton.1 hy
      exact kx_ok s
  unfold save
  rw [if_neg (by decide), if_neg (fun h => h hw), if_pos (kxx_twice s)]
def kdat (e : L.En) : D.B := if e.kind = 0 then H.abc else []
theorem k_fulls (s : Sl) : fulls kdat ([ky, kx s].map (en uK)) = [ky, kx s].map plainI := rfl
end S
attribute [local irreducible] oMv oV oU oCall oCallV oBi oBin oUn oLoad oStore oNil oFld oField oIdx oIndex oPick oAlloc oBox oBuild oBs oConv oMk oSl oExt oFn oIface oMap oLook oMapUp oRange oNext oEntry oInv oAssert oPanic oRes pN pA pL pDr pIf gA pGd Calls
section
variable [Pan] {E w W : World} {K Q : Value → World → Prop} {LL M N N' : List HA} {c : T_api_Config} {b : Nat} {d : D.T}
theorem List_ok (hS : Sat E w LL) [hf : Fnd (Dep c b) LL d N] (hl : d.ns.length ≤ 1099511627776) (hQ : ∀ s w, Sat E w (rows cd_string s d.names :: Dep c b d :: N) → Q (.slice s.a d.names.length s.c) w) :
    Calls Tryz.prog 30 #[.pointer (some ⟨b, 0, none⟩)] w (retP Q) := by
  refine snap_List.calls ?_
  unfold snap_List.F
  exact pc_depot_Depot_Names (DNames_ok hS hl hQ)

theorem gB_t {x : (Value → World → Prop) → Prop} (h : x K) : pGd (gB (.bool false) false) x w K := pGd_go rfl h
theorem gB_tt {x : (Value → World → Prop) → Prop} (h : x K) : pGd (gB (.bool true) true) x w K := pGd_go rfl h
set_option maxHeartbeats 2000000 in
theorem lknown_ok (hG : GloS W) (hS : Sat E w M) [hg : Has (old W) M N] (hQ : ∀ w, Sat E w M → Q (.bool true) w) : Calls Tryz.prog 11 #[] w (retP Q) := by
  refine pithlaw36_known.calls ?_
  unfold pithlaw36_known.F
  refine pc_pithlaw36_usual (lusual_ok hS ?_)
  clear hS
  intro db w hS
  refine pN_bl (C := cd_uint8) [bv 97, bv 98, bv 99] H.abc rfl rfl rfl (by decide) hS (by decide) ?_
  clear hS
  intro sx w hS
  refine pN_mks (C := cd_uint8) (s := sx) (l := H.abc) hS (by decide) Tryz.underlying5 rfl ?_
  clear hS
  intro w hS
  have hxe : (S.kx sx).enc.toArray = #[.string ⟨#[120]⟩, .string ⟨#[]⟩, .int .i64 0, .int .i64 420, .int .i64 0, .slice sx.a H.abc.length sx.c] := rfl
  have hye : S.ky.enc.toArray = #[.string ⟨#[100]⟩, .string ⟨#[]⟩, .int .i64 1, .int .i64 493, .int .i64 7, .slice none 0 0] := rfl
  repeat' (first | refine pGd_go (by rfl) ?_ | refine pN_la hS (by rfl) ?_ | (refine pN_sa hS (by rfl) (by rfl) (by rfl) ?_; clear hS; intro w hS; try dsimp only at hS) | (refine pN_nz hS ?_; clear hS; intro a w hS) | refine pN_v (hk := ?_) | fail)
  refine pN_bl (C := cd_api_Item) [.agg (S.kx sx).enc.toArray, .agg S.ky.enc.toArray] [S.kx sx, S.ky] rfl rfl rfl (Nat.succ_pos _) hS (Nat.le_of_ble_eq_true rfl) ?_
  clear hS
  intro sq w hS
  have hk0 : (D.new S.uK).k.legal := S.uK_ok
  have hkl := S.kxy_list sx
  have hks := (S.kxy_sort sx).1
  refine gB_t ?_
  refine pc_snap_Save (Save_ok (c := S.uC) (d := D.new S.uK) (its := [S.kx sx, S.ky]) (sl := sq) (n := S.one) hG hk0 hS (by decide) ?_ ?_ (Nat.le_of_ble_eq_true rfl) ?_ ?_)
  · intro x hx
    rcases List.mem_cons.1 hx with rfl | hx
    · show Rds cd_uint8 _ sx H.abc
      infer_instance
    · obtain rfl := List.mem_singleton.1 hx
      show Rds cd_uint8 _ ⟨none, 0⟩ []
      infer_instance
  · intro x hx
    rcases List.mem_cons.1 hx with rfl | hx
    · exact ⟨Nat.le_of_ble_eq_true rfl, Nat.le_of_ble_eq_true rfl, Nat.le_of_ble_eq_true rfl⟩
    · obtain rfl := List.mem_singleton.1 hx
      exact ⟨Nat.le_of_ble_eq_true rfl, Nat.le_of_ble_eq_true rfl, Nat.le_of_ble_eq_true rfl⟩
  · show (S.list S.uK (S.sort [S.kx sx, S.ky])).length ≤ _
    rw [hks, hkl]
    exact Nat.le_of_ble_eq_true rfl
  rw [S.k_save]
  clear hS
  intro w hS
  dsimp only at hS ⊢
  repeat' (first | (refine pc_pithlaw36_num (Lnum_ok _ ?_)) | (refine pN_neq_s ?_ ?_ <;> intro hc <;> try (exfalso; first | omega | exact hc rfl | exact hc (by assumption) | exact absurd hc (by assumption))) | refine pGd_go (by rfl) ?_ | refine pN_la hS (by rfl) ?_ | refine pN_v (hk := ?_) | fail)
  refine pN_bl (C := cd_api_Item) [.agg (S.kx sx).enc.toArray, .agg (S.kx sx).enc.toArray] [S.kx sx, S.kx sx] rfl rfl rfl (Nat.succ_pos _) hS (Nat.le_of_ble_eq_true rfl) ?_
  clear hS
  intro sq2 w hS
  have hk1 : (S.kd sx).k = S.uK := S.saved_k _ _ _
  refine gB_t ?_
  refine pc_snap_Save (Save_ok (c := S.uC) (d := S.kd sx) (its := [S.kx sx, S.kx sx]) (sl := sq2) (n := S.bad) hG (by rw [hk1]; exact S.uK_ok) hS (by decide) ?_ ?_ (Nat.le_of_ble_eq_true rfl) ?_ ?_)
  · intro x hx
    obtain rfl : x = S.kx sx := by simpa using hx
    show Rds cd_uint8 _ sx H.abc
    infer_instance
  · intro x hx
    obtain rfl : x = S.kx sx := by simpa using hx
    exact ⟨Nat.le_of_ble_eq_true rfl, Nat.le_of_ble_eq_true rfl, Nat.le_of_ble_eq_true rfl⟩
  · rw [hk1]
    refine S.list_le S.uK_ok (fun x hx => ?_) (fun x hx => ?_) ?_
    · obtain rfl : x = S.kx sx := by simpa using (S.sort_perm _).mem_iff.1 hx
      exact S.kx_ok sx
    · obtain rfl : x = S.kx sx := by simpa using (S.sort_perm _).mem_iff.1 hx
      exact Nat.le_of_ble_eq_true rfl
    · rw [(S.sort_perm _).length_eq]
      exact Nat.le_of_ble_eq_true rfl
  rw [S.k_bad]
  clear hS
  intro w hS
  dsimp only at hS ⊢
  repeat' (first | (refine pc_pithlaw36_num (Lnum_ok _ ?_)) | (refine pN_neq_s ?_ ?_ <;> intro hc <;> try (exfalso; first | omega | exact hc rfl | exact hc (by assumption) | exact absurd hc (by assumption))) | refine pIf_f ?_ | refine pGd_go (by rfl) ?_ | refine pN_v (hk := ?_) | fail)
  refine pc_snap_Items (Items_ok (c := S.uC) hS S.one (S.kd_tells sx) (Nat.le_of_ble_eq_true rfl) (fun q hq => by rw [S.kd_get] at hq; cases hq; exact Nat.le_of_ble_eq_true rfl) (Nat.le_of_ble_eq_true rfl) S.kdat (fun e he => ?_) ?_)
  · rcases List.mem_cons.1 he with rfl | he
    · refine ⟨?_, fun h => absurd h (by decide), fun _ => rfl, Nat.le_of_ble_eq_true rfl⟩
      show (D.ids S.uK []).length ≤ _
      rw [S.ids_nil]
      exact Nat.le_of_ble_eq_true rfl
    · obtain rfl := List.mem_singleton.1 he
      have h0 : D.ids S.uK H.abc = [H.sum H.abc] := by rw [D.ids, S.abc_pieces]; rfl
      refine ⟨?_, fun _ => ?_, fun h => absurd rfl h, Nat.le_of_ble_eq_true rfl⟩
      · show (D.ids S.uK H.abc).length ≤ _
        rw [h0]
        exact Nat.le_of_ble_eq_true rfl
      · show (S.kd sx).get (D.ids S.uK H.abc) = some H.abc
        rw [h0]
        exact S.kd_abc sx
  clear hS
  intro outs so w hout hS
  rw [S.k_fulls] at hout
  have hol : outs.length = 2 := by have := congrArg List.length hout; rwa [List.length_map] at this
  repeat' (first | refine pN_v (hk := ?_) | fail)
  refine pc_depot_Depot_Root (DRoot_ok (c := S.uC) hS S.one (fun q hq => by rw [(S.kd_tells sx).ns] at hq; cases hq; exact Nat.le_of_ble_eq_true rfl) (fun hno => by rw [(S.kd_tells sx).ns] at hno; cases hno) fun q hq => ?_)
  rw [(S.kd_tells sx).ns] at hq
  cases hq
  clear hS
  intro sr w hS
  repeat' (first | (refine pc_depot_Depot_Get (DGet_ok (c := S.uC) (s := sr) (li := [H.sum H.lst]) hS (Nat.le_of_ble_eq_true rfl) (fun j q hq => by have h46 := D.get_pre (S.kd_get sx) hq; exact Nat.le_trans h46 (Nat.le_of_ble_eq_true rfl)) (fun hno => by rw [S.kd_get] at hno; cases hno) ?_)) | refine pN_v (hk := ?_) | fail)
  intro q hq
  rw [S.kd_get] at hq
  cases hq
  clear hS
  intro sb w hS
  repeat' (first | (refine pc_pithlaw36_num (Lnum_ok _ ?_)) | (refine pN_eql_s ?_ ?_ <;> intro hc <;> try (exfalso; first | omega | exact hc rfl | exact hc (by assumption) | exact absurd hc (by assumption))) | refine pGd_go (by rfl) ?_ | refine pN_la hS (by rfl) ?_ | refine pN_v (hk := ?_) | fail)
  refine pN_bl (C := cd_api_Item) [.agg S.ky.enc.toArray, .agg (S.kx sx).enc.toArray] [S.ky, S.kx sx] rfl rfl rfl (Nat.succ_pos _) hS (Nat.le_of_ble_eq_true rfl) ?_
  clear hS
  intro sq3 w hS
  refine gB_tt ?_
  refine pc_pithlaw36_sameAll (lsameAll_ok (la := outs) (lb := [S.ky, S.kx sx]) (sa := so) (sb := sq3) hS (fun x hx => ?_) (fun x hx => ?_) (by rw [hol]; exact Nat.le_of_ble_eq_true rfl) ?_)
  · haveI := itR_rd hx
    infer_instance
  · rcases List.mem_cons.1 hx with rfl | hx
    · show Rds cd_uint8 _ ⟨none, 0⟩ []
      infer_instance
    · obtain rfl := List.mem_singleton.1 hx
      show Rds cd_uint8 _ sx H.abc
      infer_instance
  rw [decide_eq_true hout]
  clear hS
  intro w hS
  have h46 : (H.lst.length : Int) = 46 := rfl
  have h14 : H.lst.take 14 = [2, 1, 237, 3, 7, 1, 100, 0, 164, 3, 0, 1, 120, 1] := rfl
  repeat' (first | (refine pc_pithlaw36_num (Lnum_ok _ ?_)) | (refine pN_eql_s ?_ ?_ <;> intro hc <;> try (exfalso; first | omega | exact hc rfl | exact hc (by assumption) | exact absurd hc (by assumption))) | refine pGd_go (by rfl) ?_ | refine pN_v (hk := ?_) | fail)
  refine pN_slh (C := cd_uint8) (s := sb) (l := H.lst) hS 14 rfl rfl (Nat.le_of_ble_eq_true rfl) ?_
  intro s14 hp14
  rw [h14] at hp14
  haveI := hp14.rd _ (inferInstance : Rds cd_uint8 (rows cd_api_Item sq3 [S.ky, S.kx sx] :: rows cd_uint8 sb H.lst :: Dep S.uC db (S.kd sx) :: M) sb H.lst)
  have hS : Sat E w (rows cd_api_Item sq3 [S.ky, S.kx sx] :: rows cd_uint8 sb H.lst :: Dep S.uC db (S.kd sx) :: M) := hS.to
  have hnm : (S.kd sx).names.length = 1 := by rw [S.kd_names]; rfl
  have hnl : (S.kd sx).ns.length ≤ 1099511627776 := by
    have h1 := S.kd_names sx
    have h2 : (S.kd sx).names.length = ((S.kd sx).ns.map (·.1)).length := (S.sortN_perm _).length_eq
    rw [hnm, List.length_map] at h2
    omega
  repeat' (first | (refine pc_snap_List (List_ok (c := S.uC) hS hnl ?_); clear hS; intro sn w hS; rw [hnm]) | (refine pN_eql_ss (l := [2, 1, 237, 3, 7, 1, 100, 0, 164, 3, 0, 1, 120, 1]) (r := [2, 1, 237, 3, 7, 1, 100, 0, 164, 3, 0, 1, 120, 1]) ?_ ?_ <;> intro hc <;> try (exact absurd rfl hc)) | (refine pN_eql_s ?_ ?_ <;> intro hc <;> try (exfalso; first | omega | exact hc rfl | exact hc (by assumption) | exact absurd hc (by assumption))) | refine pGd_go (by rfl) ?_ | refine pN_st hS (by first | rfl | omega | simpa only [go_sem] using True.intro | (simp only [go_sem]; omega)) ?_ | refine pN_v (hk := ?_) | fail)
  exact hQ _ hS.to
end
end Go.Proofs.YtikmogfhhggafaaGreatDoor

namespace Go.Proofs.YtikmogfhhggafaaGreatDoor
open Go
namespace A
def many (its : List T_api_Item) : List UInt8 := (its.map putB).flatten
def whole (its : List T_api_Item) : List UInt8 := many its ++ List.replicate 1024 0
theorem many_0 (its : List T_api_Item) : many (its.take 0) = [] := by rw [List.take_zero]; rfl
theorem many_take {its : List T_api_Item} {k : Nat} {x : T_api_Item} (h : its[k]? = some x) : many (its.take (k + 1)) = many (its.take k) ++ putB x := by
  unfold many
  rw [List.take_add_one, h]
  simp
theorem put_bd {x : T_api_Item} (h : wrong x = 0) : (putB x).length ≤ x.Data.2.length + 1024 := by
  have hh := header_len (wrong_0 h).1 x.Data.2.length
  have hp : padn (512 + x.Data.2.length) < 512 := Nat.mod_lt _ (by omega)
  unfold putB
  rw [List.length_append, List.length_append, List.length_replicate, hh]
  omega
theorem many_bd : ∀ {its : List T_api_Item}, (∀ x ∈ its, wrong x = 0 ∧ x.Data.2.length ≤ 1048576) → (many its).length ≤ its.length * 1049600
  | [], _ => Nat.zero_le _
  | x :: its, h => by
    have h1 := h x List.mem_cons_self
    have h3 := put_bd h1.1
    have h2 := many_bd (its := its) fun y hy => h y (List.mem_cons_of_mem _ hy)
    have e : many (x :: its) = putB x ++ many its := rfl
    rw [e, List.length_append, List.length_cons, Nat.add_mul, Nat.one_mul]
    omega
theorem putB_plain {x y : T_api_Item} (h : S.plainI x = S.plainI y) : putB x = putB y := by
  obtain ⟨a, b, c, d, e, f⟩ := x
  obtain ⟨a', b', c', d', e', f'⟩ := y
  simp only [S.plainI, T_api_Item.mk.injEq, Prod.mk.injEq, true_and] at h
  obtain ⟨rfl, rfl, rfl, rfl, rfl, hf⟩ := h
  unfold putB
  simp only [hf]
  rfl
theorem whole_plain {l m : List T_api_Item} (h : l.map S.plainI = m.map S.plainI) : whole l = whole m := by
  have : ∀ (l m : List T_api_Item), l.map S.plainI = m.map S.plainI → l.map putB = m.map putB := by
    intro l
    induction l with
    | nil => intro m h; cases m with
      | nil => rfl
      | cons _ _ => cases h
    | cons x l ih =>
      intro m h
      cases m with
      | nil => cases h
      | cons y m =>
        rw [List.map_cons, List.map_cons, List.cons.injEq] at h
        rw [List.map_cons, List.map_cons, putB_plain h.1, ih m h.2]
  unfold whole many
  rw [this l m h]
theorem wrong_plain {x y : T_api_Item} (h : S.plainI x = S.plainI y) : wrong x = wrong y := by
  obtain ⟨a, b, c, d, e, f⟩ := x
  obtain ⟨a', b', c', d', e', f'⟩ := y
  simp only [S.plainI, T_api_Item.mk.injEq, Prod.mk.injEq, true_and] at h
  obtain ⟨rfl, rfl, rfl, rfl, rfl, hf⟩ := h
  unfold wrong
  simp only [hf]
end A
attribute [local irreducible] oMv oV oU oCall oCallV oBi oBin oUn oLoad oStore oNil oFld oField oIdx oIndex oPick oAlloc oBox oBuild oBs oConv oMk oSl oExt oFn oIface oMap oLook oMapUp oRange oNext oEntry oInv oAssert oPanic oRes pN pA pL pDr pIf gA pGd Calls A.made A.header A.oct A.wrong A.padn A.putB A.num A.text A.many
section
variable [Pan] {E w : World} {K Q : Value → World → Prop} {L M : List HA} {l r : List UInt8} {s s2 sl : Sl} {its : List T_api_Item}

set_option maxRecDepth 8000 in
set_option maxHeartbeats 4000000 in
theorem Write_ok (hS : Sat E w M) [hr : Rds cd_api_Item M sl its] (hd : ∀ x ∈ its, Rds cd_uint8 M x.Data.1 x.Data.2) (hnm : ∀ x ∈ its, x.Name.length ≤ 140737488355328 ∧ x.Link.length ≤ 140737488355328)
    (hl : its.length ≤ 1099511627776) (hw0 : ∀ x ∈ its, A.wrong x = 0) (hb : ∀ k, k ≤ its.length → (A.many (its.take k)).length + 1024 ≤ 140737488355328)
    (hok : ∀ s w, Sat E w (rows cd_uint8 s (A.whole its) :: M) → Q (.tuple #[.slice s.a (A.whole its).length s.c, .int .i64 0]) w) :
    Calls Tryz.prog 25 #[.slice sl.a its.length sl.c] w (retP Q) := by
  refine tar_Write.calls ?_
  unfold tar_Write.F
  repeat' (first | refine pN_v (hk := ?_) | fail)
  refine ⟨fun o i w => ∃ (k : Nat) (so : Sl), k ≤ its.length ∧ o = .slice so.a (A.many (its.take k)).length so.c ∧ i = .int .i64 k ∧ Sat E w (rows cd_uint8 so (A.many (its.take k)) :: M), fun _ i _ => its.length - (RowKit.intOf i).toNat,
    ⟨0, ⟨none, 0⟩, Nat.zero_le _, by rw [A.many_0]; rfl, rfl, by rw [A.many_0]; exact hS.nil cd_uint8.e cd_uint8.size⟩, ?_⟩
  clear hS
  rintro _ _ _ w ⟨k, so, hk, rfl, rfl, hS⟩
  have hbk := hb k hk
  by_cases hlt : k < its.length
  · obtain ⟨x, hx⟩ : ∃ x, its[k]? = some x := ⟨its[k], by simp [hlt]⟩
    have hm : x ∈ its := List.mem_of_getElem? hx
    haveI := hd x hm
    obtain ⟨hn1, hn2⟩ := hnm x hm
    have hx0 := hw0 x hm
    have hbk1 := hb (k + 1) hlt
    rw [A.many_take hx] at hbk1
    have hmt := A.many_take hx
    generalize hmk : A.many (its.take k) = mk at *
    repeat' (first | (refine pN_lss_s ?_ ?_ <;> intro hc <;> try (exfalso; omega)) | refine pIf_t ?_ | refine pN_ld_at ha hS (by rfl) ?_ | refine pN_la hS (by rfl) ?_ | (refine pN_sa hS (by rfl) (by rfl) (by rfl) ?_; clear hS; intro w hS; try dsimp only at hS) | (refine pN_nz hS ?_; clear hS; intro a w hS) | refine pN_ixk hS _ (by first | rfl | (exact (Int.toNat_of_nonneg (by omega)).symm)) (by first | rfl | omega | simpa only [go_sem] using True.intro | (simp only [go_sem]; omega)) (by assumption) fun a ha hel => ?_ | fail)
    refine pc_tar_Put (Put_ok x hn1 hn2 hS (fun h0 w hS => absurd hx0 h0) fun h0 s1 w hS => ?_)
    rw [List.length_append] at hbk1
    repeat' (first | (refine pN_neq_s ?_ ?_ <;> intro hc <;> try (exfalso; first | omega | exact hc rfl | exact hc (by assumption) | exact absurd hc (by assumption))) | refine pIf_f ?_ | (refine pN_app hS (by first | rfl | omega | simpa only [go_sem] using True.intro | (simp only [go_sem]; omega)) (by first | rfl | omega | simpa only [go_sem] using True.intro | (simp only [go_sem]; omega)) (by first | omega | (simp only [go_sem]; omega)) ?_; clear hS; intro s w hS) | refine pN_v (hk := ?_) | fail)
    exact ⟨⟨k + 1, s, hlt, by rw [hmt], rfl, by rw [hmt]; exact hS.to⟩, by simp [RowKit.intOf] <;> omega⟩
  · obtain rfl : k = its.length := by omega
    rw [List.take_length] at hS hbk ⊢
    have hwl : A.whole its = A.many its ++ List.replicate 1024 0 := rfl
    have hz : cd_uint8.zero = 0 := rfl
    generalize hmk : A.many its = mk at *
    repeat' (first | (refine pN_lss_s ?_ ?_ <;> intro hc <;> try (exfalso; omega)) | refine pIf_f ?_ | fail)
    refine pN_appz (C := cd_uint8) (s := so) (l := mk) hS 1024 rfl rfl (by omega) ?_
    clear hS
    intro s1 w hS
    rw [hz, ← hwl] at hS ⊢
    exact hok _ _ hS
end
end Go.Proofs.YtikmogfhhggafaaGreatDoor

namespace Go.Proofs.YtikmogfhhggafaaGreatDoor
open Go
instance zv_item : Zv Tryz.prog 49 [.string ⟨#[]⟩, .string ⟨#[]⟩, .int .i64 0, .int .i64 0, .int .i64 0, .slice none 0 0] := ⟨_, Tryz.zeroValue49, rfl⟩
attribute [local irreducible] oMv oV oU oCall oCallV oBi oBin oUn oLoad oStore oNil oFld oField oIdx oIndex oPick oAlloc oBox oBuild oBs oConv oMk oSl oExt oFn oIface oMap oLook oMapUp oRange oNext oEntry oInv oAssert oPanic oRes pN pA pL pDr pIf gA pGd Calls
section
variable [Pan] {E w W : World} {K Q : Value → World → Prop} {LL M N N' : List HA} {c : T_api_Config} {db : Nat} {d : D.T} {s : Sl}

abbrev findV (wb : Nat) : Value := .func (.func 73) #[] #[.pointer (some ⟨wb, 0, none⟩)]
theorem Find1_ok (p : EE) {wb : Nat} {what : List UInt8} (hS : Sat E w M) [Fnd (cel wb) M ⟨9, [.string ⟨what.toArray⟩]⟩ N] (hQ : ∀ w, Sat E w M → Q (.bool (decide (p.1.Name = what))) w) :
    pN Tryz.prog (oCallV (findV wb) [.agg (cdE.enc p).toArray]) w Q := by
  refine pN_callV (cap := [.pointer (some ⟨wb, 0, none⟩)]) call_snap_Find_c1 ?_
  refine snap_Find_c1.calls ?_
  unfold snap_Find_c1.F
  refine pN_bx (z := cdE.enc p) hS rfl ?_
  clear hS
  intro eb w hS
  obtain ⟨x, sx, li⟩ := p
  by_cases h : x.Name = what
  · rw [decide_eq_true h] at hQ
    repeat' (first | (refine pN_eql_ss (l := x.Name) (r := what) ?_ ?_ <;> intro hc <;> try (exact absurd h hc)) | refine pN_l hS (by first | rfl | assumption) ?_ | refine pN_v (hk := ?_) | fail)
    exact hQ _ hS.to
  · rw [decide_eq_false h] at hQ
    repeat' (first | (refine pN_eql_ss (l := x.Name) (r := what) ?_ ?_ <;> intro hc <;> try (exact absurd hc h)) | refine pN_l hS (by first | rfl | assumption) ?_ | refine pN_v (hk := ?_) | fail)
    exact hQ _ hS.to
theorem IndexFunc_ok {ee : List EE} {wb : Nat} {what : List UInt8} (hS : Sat E w M) [hr : Rds cdE M s ee] [Fnd (cel wb) M ⟨9, [.string ⟨what.toArray⟩]⟩ N] (hl : ee.length ≤ 1099511627776)
    (hno : (∀ p ∈ ee, p.1.Name ≠ what) → ∀ w, Sat E w M → Q (.int .i64 (-1)) w) (hyes : ∀ (i : Nat) p, ee[i]? = some p → p.1.Name = what → ∀ w, Sat E w M → Q (.int .i64 i) w) :
    Calls Tryz.prog 72 #[.slice s.a ee.length s.c, findV wb] w (retP Q) := by
  refine slices_IndexFunc___snap_entry_snap_entry_.calls ?_
  unfold slices_IndexFunc___snap_entry_snap_entry_.F
  repeat' (first | refine pN_v (hk := ?_) | fail)
  refine ⟨fun v w => ∃ j : Nat, v = .int .i64 j ∧ j ≤ ee.length ∧ (∀ p ∈ ee.take j, p.1.Name ≠ what) ∧ Sat E w M, fun v _ => ee.length - (RowKit.intOf v).toNat, ⟨0, rfl, by omega, fun p hp => by simp at hp, hS⟩, ?_⟩
  clear hS
  rintro _ _ w ⟨j, rfl, hj, hn, hS⟩
  by_cases hlt : j < ee.length
  · obtain ⟨p, hp⟩ : ∃ p, ee[j]? = some p := ⟨ee[j], List.getElem?_eq_getElem _⟩
    repeat' (first | refine pN_ixk hS j (by omega) (by omega) hp fun ad ha hel => ?_ | (refine pN_lss_s ?_ ?_ <;> intro hc <;> try (exfalso; omega)) | refine pIf_t ?_ | refine pN_ld_at ha hS (by rfl) ?_ | fail)
    refine Find1_ok p hS ?_
    clear hS
    intro w hS
    by_cases h : p.1.Name = what
    · rw [decide_eq_true h]
      repeat' (first | refine pIf_t ?_ | fail)
      exact hyes j p hp h _ hS
    · rw [decide_eq_false h]
      repeat' (first | refine pIf_f ?_ | refine pN_v (hk := ?_) | fail)
      refine ⟨⟨j + 1, rfl, by omega, fun q hq => ?_, hS⟩, by simp [RowKit.intOf] <;> omega⟩
      rw [List.take_add_one, hp] at hq
      rcases List.mem_append.1 hq with hq | hq
      · exact hn q hq
      · obtain rfl : q = p := by simpa using hq
        exact h
  · obtain rfl : j = ee.length := by omega
    rw [List.take_length] at hn
    repeat' (first | (refine pN_lss_s ?_ ?_ <;> intro hc <;> try (exfalso; omega)) | refine pIf_f ?_ | fail)
    exact hno hn _ hS

set_option maxHeartbeats 2000000 in
theorem Find_ok (hS : Sat E w LL) [hf : Fnd (Dep c db) LL d N] (n : NKey) {es : List L.En} {root : List I32} (ht : S.Tells d n.1 es root) (hrl : root.length ≤ 1099511627776) (hbl : ∀ q, d.get root = some q → q.length ≤ 1099511627776) (hel : es.length ≤ 1099511627776)
    (what : List UInt8) (dat : L.En → D.B) (hd : ∀ e ∈ es, e.sums.length ≤ 1099511627776 ∧ (e.kind = 0 → d.get e.sums = some (dat e)) ∧ (e.kind ≠ 0 → dat e = []) ∧ (dat e).length ≤ 140737488355328)
    (hno : (∀ e ∈ es, e.name ≠ what) → ∀ w, Sat E w (Dep c db d :: N) → Q (.tuple #[.agg #[.string ⟨#[]⟩, .string ⟨#[]⟩, .int .i64 0, .int .i64 0, .int .i64 0, .slice none 0 0], .int .i64 8]) w)
    (hyes : ∀ e ∈ es, e.name = what → ∀ s w, Sat E w (rows cd_uint8 s (dat e) :: Dep c db d :: N) → Q (.tuple #[.agg (S.full e s (dat e)).enc.toArray, .int .i64 0]) w) :
    Calls Tryz.prog 28 #[.pointer (some ⟨db, 0, none⟩), nke n, .string ⟨what.toArray⟩] w (retP Q) := by
  refine snap_Find.calls ?_
  unfold snap_Find.F
  refine pN_bx (z := [.string ⟨what.toArray⟩]) hS rfl ?_
  clear hS
  intro wb w hS
  refine pN_nz (t := 49) hS ?_
  clear hS
  intro rb w hS
  refine pc_snap_listed (slisted_ok (c := c) hS n ht hrl hbl ?_)
  clear hS
  intro ee se sr w hee hba hS
  have hell : ee.length = es.length := by rw [← hee, List.length_map]
  repeat' (first | (refine pN_neq_s ?_ ?_ <;> intro hc <;> try (exfalso; first | omega | exact hc rfl | exact hc (by assumption) | exact absurd hc (by assumption))) | refine pIf_f ?_ | refine pN_fn ?_ | refine pN_v (hk := ?_) | fail)
  refine pc_slices_IndexFunc___snap_entry_snap_entry_ (IndexFunc_ok (s := se) (ee := ee) (wb := wb) (what := what) hS (by omega) (fun hn w hS => ?_) (fun i p hp hpn w hS => ?_))
  · have hn2 : ∀ e ∈ es, e.name ≠ what := fun e he => by
      rw [← hee] at he
      obtain ⟨p, hp, rfl⟩ := List.mem_map.1 he
      exact hn p hp
    repeat' (first | refine pL_ra (n := 6) hS rfl ?_ | (refine pN_lss_s ?_ ?_ <;> intro hc <;> try (exfalso; omega)) | refine pIf_t ?_ | (refine pN_sa hS (by rfl) (by rfl) (by rfl) ?_; clear hS; intro w hS; try dsimp only at hS) | refine pN_v (hk := ?_) | fail)
    exact hno hn2 _ hS.to
  · have hil : i < ee.length := (List.getElem?_eq_some_iff.1 hp).1
    have hpm := List.mem_of_getElem? hp
    have hem : enOf p ∈ es := by rw [← hee]; exact List.mem_map.2 ⟨p, hpm, rfl⟩
    obtain ⟨d1, d2, d3, d4⟩ := hd _ hem
    haveI : RdP (cdI 58) (bag (eeR ee)) p.2.1 p.2.2 := eeR_rd hpm
    repeat' (first | refine pN_ixk hS i (by omega) (by omega) hp fun ad ha hel => ?_ | (refine pc_snap_item (item_ok (c := c) (d := d) p (hba p hpm) hS d1 (bs := dat (enOf p)) d2 d3 d4 ?_); clear hS; intro si w hS) | refine pL_ra (n := 6) hS rfl ?_ | (refine pN_lss_s ?_ ?_ <;> intro hc <;> try (exfalso; omega)) | refine pIf_f ?_ | refine pN_ld_at ha hS (by rfl) ?_ | (refine pN_sa hS (by rfl) (by rfl) (by rfl) ?_; clear hS; intro w hS; try dsimp only at hS) | refine pN_v (hk := ?_) | fail)
    exact hyes _ hem hpn si _ hS.to

set_option maxHeartbeats 2000000 in
theorem Tar_ok (hS : Sat E w LL) [hf : Fnd (Dep c db) LL d N] (n : NKey) {es : List L.En} {root : List I32} (ht : S.Tells d n.1 es root) (hrl : root.length ≤ 1099511627776) (hbl : ∀ q, d.get root = some q → q.length ≤ 1099511627776) (hel : es.length ≤ 1048576)
    (dat : L.En → D.B) (hd : ∀ e ∈ es, e.sums.length ≤ 1099511627776 ∧ (e.kind = 0 → d.get e.sums = some (dat e)) ∧ (e.kind ≠ 0 → dat e = []) ∧ (dat e).length ≤ 140737488355328) (its : List T_api_Item) (hits : its.map S.plainI = S.fulls dat es)
    (hw : ∀ x ∈ its, A.wrong x = 0 ∧ x.Data.2.length ≤ 1048576 ∧ x.Name.length ≤ 1048576 ∧ x.Link.length ≤ 1048576)
    (hQ : ∀ s w, Sat E w (rows cd_uint8 s (A.whole its) :: Dep c db d :: N) → Q (.tuple #[.slice s.a (A.whole its).length s.c, .int .i64 0]) w) :
    Calls Tryz.prog 29 #[.pointer (some ⟨db, 0, none⟩), nke n] w (retP Q) := by
  refine snap_Tar.calls ?_
  unfold snap_Tar.F
  refine pc_snap_Items (Items_ok (c := c) hS n ht hrl hbl (by omega) dat hd ?_)
  clear hS
  intro outs so w hout hS
  have hol : outs.length = es.length := by
    have := congrArg List.length hout
    unfold S.fulls at this
    rwa [List.length_map, List.length_map] at this
  have hwo : ∀ x ∈ outs, A.wrong x = 0 ∧ x.Data.2.length ≤ 1048576 ∧ x.Name.length ≤ 1048576 ∧ x.Link.length ≤ 1048576 := fun x hx => by
    have h1 : S.plainI x ∈ its.map S.plainI := by rw [hits, ← hout]; exact List.mem_map_of_mem hx
    obtain ⟨y, hy, he⟩ := List.mem_map.1 h1
    obtain ⟨w1, w2, w3, w4⟩ := hw y hy
    have e1 : y.Data.2 = x.Data.2 := (by rw [he] : (S.plainI y).Data.2 = (S.plainI x).Data.2)
    have e2 : y.Name = x.Name := (by rw [he] : (S.plainI y).Name = (S.plainI x).Name)
    have e3 : y.Link = x.Link := (by rw [he] : (S.plainI y).Link = (S.plainI x).Link)
    exact ⟨by rw [← A.wrong_plain he]; exact w1, by rw [← e1]; exact w2, by rw [← e2]; exact w3, by rw [← e3]; exact w4⟩
  have hwhole : A.whole outs = A.whole its := A.whole_plain (by rw [hout, hits])
  repeat' (first | (refine pN_neq_s ?_ ?_ <;> intro hc <;> try (exfalso; first | omega | exact hc rfl | exact hc (by assumption) | exact absurd hc (by assumption))) | refine pIf_f ?_ | refine pN_v (hk := ?_) | fail)
  refine pc_tar_Write (Write_ok (sl := so) (its := outs) hS (fun x hx => by haveI := itR_rd hx; infer_instance) (fun x hx => by have := hwo x hx; omega) (by omega) (fun x hx => (hwo x hx).1) (fun k hk => ?_) fun s w hS => ?_)
  · have h1 := A.many_bd (its := outs.take k) fun x hx => ⟨(hwo x (List.mem_of_mem_take hx)).1, (hwo x (List.mem_of_mem_take hx)).2.1⟩
    have h2 : (outs.take k).length ≤ 1048576 := by rw [List.length_take]; omega
    have h3 : (outs.take k).length * 1049600 ≤ 1048576 * 1049600 := Nat.mul_le_mul_right _ h2
    omega
  · rw [hwhole] at hS ⊢
    repeat' (first | refine pN_v (hk := ?_) | fail)
    exact hQ s _ hS.to
end
end Go.Proofs.YtikmogfhhggafaaGreatDoor
