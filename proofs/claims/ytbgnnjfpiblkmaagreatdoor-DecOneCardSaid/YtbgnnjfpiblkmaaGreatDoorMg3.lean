/-
  Texts of one proof, one behind the other: LfPithlaw15, LfLzdec, RPure, LfProb, Open, Types.
-/
import Derived.Test.YtbgnnjfpiblkmaaGreatDoorRows
import Derived.ProofKit
import Derived.OpenShut
import Derived.ShutString
import Derived.ChangeOld
import Derived.SizedLaws
import Derived.Deep.Slices
import Derived.Deep.CondSized
import Derived.Test.YtbgnnjfpiblkmaaGreatDoorMg2
namespace Go.Proofs.YtbgnnjfpiblkmaaGreatDoor
open Go
set_option linter.unusedSimpArgs false
set_option linter.unnecessarySimpa false
set_option linter.unusedSectionVars false
set_option linter.unusedVariables false
set_option maxRecDepth 100000

def pithlaw15_DecOne.H : Hints := { cut := fun  | _ => none, loop := fun | 15 => ([16], 166133217063510832442551935283822596) | 24 => ([21], 1606938032286368862527205386416576452910412496761393575362564) | _ => ([], 0), order := fun | 20 => [(0, 0), (1, 1), (2, 3), (3, 7), (4, 15), (5, 31), (6, 63), (7, 127), (8, 255), (9, 511), (10, 1023), (11, 2047), (12, 4095), (13, 8191), (14, 16383), (15, 32767), (16, 65535), (17, 131071), (18, 262143), (19, 524287), (20, 1048575), (21, 2097151), (22, 4194303), (25, 8388607), (26, 41943039), (23, 109051903), (24, 117440511), (27, 134217727), (28, 268435455), (29, 536870911), (30, 1073741823), (31, 2147483647), (32, 4294967295), (33, 8589934591)] | _ => [] }
def pithlaw15_DecOne.F [Pan] (x0 : Value) (w : World) (Q : Value → World → Prop) : Prop :=
 pN Tryz.prog (oBox 84 x0) w fun x1 w1 =>
 pN Tryz.prog (oFld 84 x1 0) w1 fun x27 w2 =>
 pN Tryz.prog (oLoad 23 x27) w2 fun x28 w3 =>
 pN Tryz.prog (oAlloc 23) w3 fun x3 w4 =>
 pN Tryz.prog (oStore 23 x3 x28) w4 fun _ w5 =>
 pN Tryz.prog (oFld 84 x1 1) w5 fun x29 w6 =>
 pN Tryz.prog (oLoad 3 x29) w6 fun x30 w7 =>
 pN Tryz.prog (oFld 84 x1 2) w7 fun x31 w8 =>
 pN Tryz.prog (oLoad 30 x31) w8 fun x32 w9 =>
 pN Tryz.prog (oFld 84 x1 3) w9 fun x33 w10 =>
 pN Tryz.prog (oLoad 3 x33) w10 fun x34 w11 =>
 pN Tryz.prog (oLoad 23 x3) w11 fun x36 w12 =>
 pN Tryz.prog (oCall 37 [x36, x30]) w12 fun x38 w13 =>
 pN Tryz.prog (oExt x38 0) w13 fun x39 w14 =>
 pN Tryz.prog (oExt x38 1) w14 fun x40 w15 =>
 pN Tryz.prog (oExt x38 2) w15 fun x41 w16 =>
 pN Tryz.prog (oUn .not x41) w16 fun x43 w17 =>
 pGd (gB x43 false) (pN Tryz.prog (oCall 10 []) w17) w17 fun x45 w18 =>
 pGd (gB x43 false) (pN Tryz.prog (oUn .not x45) w18) w18 fun x46 w19 =>
 pN Tryz.prog (oPick x43 (.bool true) x46) w19 fun x47 w20 =>
 pGd (gB x47 false) (pN Tryz.prog (oCall 38 []) w20) w20 fun x49 w21 =>
 pGd (gB x47 false) (pN Tryz.prog (oUn .not x49) w21) w21 fun x50 w22 =>
 pN Tryz.prog (oPick x47 (.bool true) x50) w22 fun x51 w23 =>
 pIf x51
 (Q (.bool false) w23)
 (pN Tryz.prog (oBin .eql 37 (.tmp 52) (.const (.pointer none)) x39 (.pointer none)) w23 fun x53 w24 =>
 pIf x53
 (Q (.bool true) w24)
 (pN Tryz.prog (oBs 30 0 []) w24 fun x56 w25 =>
 pN Tryz.prog (oBi .append #[30, 30] 30 [false, false] [x56, x32]) w25 fun x58 w26 =>
 pN Tryz.prog (oCall 39 [x40, x58, x34]) w26 fun x60 w27 =>
 pN Tryz.prog (oExt x60 0) w27 fun x61 w28 =>
 pN Tryz.prog (oExt x60 1) w28 fun x62 w29 =>
 pN Tryz.prog (oExt x60 2) w29 fun x63 w30 =>
 pN Tryz.prog (oBin .neq 38 (.tmp 64) (.const (.int .i64 0)) x63 (.int .i64 0)) w30 fun x65 w31 =>
 pIf x65
 (pN Tryz.prog (oMk 30 (.int .i64 6) (.int .i64 6)) w31 fun x68 w32 =>
 pN Tryz.prog (oCall 39 [x40, x68, (.int .i64 1)]) w32 fun x69 w33 =>
 pN Tryz.prog (oExt x69 0) w33 fun _ w34 =>
 pN Tryz.prog (oExt x69 1) w34 fun _ w35 =>
 pN Tryz.prog (oExt x69 2) w35 fun x72 w36 =>
 pN Tryz.prog (oBi .len #[80] 3 [false] [x61]) w36 fun x74 w37 =>
 pN Tryz.prog (oBin .eql 3 (.tmp 74) (.const (.int .i64 0)) x74 (.int .i64 0)) w37 fun x75 w38 =>
 pGd (gB x75 true) (pN Tryz.prog (oMv x62) w38) w38 fun x77 w39 =>
 pGd (gB x75 true) (pN Tryz.prog (oBi .len #[30] 3 [false] [x77]) w39) w39 fun x78 w40 =>
 pGd (gB x75 true) (pN Tryz.prog (oBin .eql 3 (.tmp 78) (.const (.int .i64 0)) x78 (.int .i64 0)) w40) w40 fun x79 w41 =>
 pN Tryz.prog (oPick x75 x79 (.bool false)) w41 fun x80 w42 =>
 pGd (gB x80 true) (pN Tryz.prog (oMv x63) w42) w42 fun x82 w43 =>
 pGd (gB x80 true) (pN Tryz.prog (oBin .eql 38 (.tmp 82) (.const (.int .i64 7)) x82 (.int .i64 7)) w43) w43 fun x83 w44 =>
 pGd (gB x80 true) (pN Tryz.prog (oMv x34) w44) w44 fun x84 w45 =>
 pGd (gB x80 true) (pN Tryz.prog (oBin .lss 3 (.tmp 84) (.const (.int .i64 1)) x84 (.int .i64 1)) w45) w45 fun x85 w46 =>
 pGd (gB x80 true) (pN Tryz.prog (oMv x85) w46) w46 fun x86 w47 =>
 pGd (gB x86 false) (pN Tryz.prog (oMv x34) w47) w47 fun x87 w48 =>
 pGd (gB x86 false) (pN Tryz.prog (oBin .gtr 3 (.tmp 87) (.const (.int .i64 2097152)) x87 (.int .i64 2097152)) w48) w48 fun x88 w49 =>
 pGd (gB x80 true) (pN Tryz.prog (oPick x86 (.bool true) x88) w49) w49 fun x89 w50 =>
 pGd (gB x80 true) (pN Tryz.prog (oBin .eql 4 (.tmp 83) (.tmp 89) x83 x89) w50) w50 fun x90 w51 =>
 pN Tryz.prog (oPick x80 x90 (.bool false)) w51 fun x91 w52 =>
 pGd (gB x91 true) (pN Tryz.prog (oMv x63) w52) w52 fun x93 w53 =>
 pGd (gB x91 true) (pN Tryz.prog (oBin .eql 38 (.tmp 93) (.const (.int .i64 7)) x93 (.int .i64 7)) w53) w53 fun x94 w54 =>
 pGd (gB x91 true) (pN Tryz.prog (oMv x94) w54) w54 fun x95 w55 =>
 pGd (gB x95 false) (pN Tryz.prog (oMv x63) w55) w55 fun x96 w56 =>
 pGd (gB x95 false) (pN Tryz.prog (oBin .eql 38 (.tmp 96) (.const (.int .i64 2)) x96 (.int .i64 2)) w56) w56 fun x97 w57 =>
 pGd (gB x95 false) (pN Tryz.prog (oMv x97) w57) w57 fun x98 w58 =>
 pGd (gB x98 true) (pN Tryz.prog (oMv x72) w58) w58 fun x99 w59 =>
 pGd (gB x98 true) (pN Tryz.prog (oBin .eql 38 (.tmp 99) (.const (.int .i64 2)) x99 (.int .i64 2)) w59) w59 fun x100 w60 =>
 pGd (gB x95 false) (pN Tryz.prog (oPick x98 x100 (.bool false)) w60) w60 fun x101 w61 =>
 pGd (gB x91 true) (pN Tryz.prog (oPick x95 (.bool true) x101) w61) w61 fun x102 w62 =>
 pN Tryz.prog (oPick x91 x102 (.bool false)) w62 fun x103 w63 =>
 Q x103 w63)
 (∃ (L15 : Value → World → Prop) (m15 : Value → World → Nat),
 L15 (.int .i64 0) w31 ∧
 ∀ (_k15 : Env) (i16l15 : Value) (w64 : World), L15 i16l15 w64 →
 pN Tryz.prog (oBi .len #[80] 3 [false] [x61]) w64 fun x106 w65 =>
 pN Tryz.prog (oBin .lss 3 (.tmp 104) (.tmp 106) i16l15 x106) w65 fun x107 w66 =>
 pIf x107
 (pN Tryz.prog (oIdx 80 x61 i16l15) w66 fun x113 w67 =>
 pN Tryz.prog (oLoad 48 x113) w67 fun x114 w68 =>
 pN Tryz.prog (oCall 17 [x39, x114]) w68 fun x115 w69 =>
 pN Tryz.prog (oBin .neq 38 (.tmp 115) (.const (.int .i64 0)) x115 (.int .i64 0)) w69 fun x116 w70 =>
 pIf x116
 (Q (.bool false) w70)
 (pN Tryz.prog (oBin .add 3 (.tmp 108) (.const (.int .i64 1)) i16l15 (.int .i64 1)) w70 fun x109 w71 =>
 (L15 x109 w71 ∧ m15 x109 w71 < m15 i16l15 w64)))
 (pN Tryz.prog (oCall 40 [x30, x61]) w66 fun x120 w72 =>
 pN Tryz.prog (oExt x120 0) w72 fun x121 w73 =>
 pN Tryz.prog (oExt x120 1) w73 fun x122 w74 =>
 pN Tryz.prog (oExt x120 2) w74 fun x123 w75 =>
 pDr w75 fun w76 =>
 pA Tryz.prog (oBin .neq 38 (.tmp 124) (.const (.int .i64 0)) x123 (.int .i64 0)) fun x125 =>
 gA (gB x125 false) (pA Tryz.prog (oMv x122)) fun x127 =>
 gA (gB x125 false) (pA Tryz.prog (oMv x61)) fun x128 =>
 gA (gB x125 false) (pA Tryz.prog (oBi .len #[80] 3 [false] [x128])) fun x129 =>
 gA (gB x125 false) (pA Tryz.prog (oBin .neq 3 (.tmp 127) (.tmp 129) x127 x129)) fun x130 =>
 pA Tryz.prog (oPick x125 (.bool true) x130) fun x131 =>
 gA (gB x131 false) (pA Tryz.prog (oMv x121)) fun x133 =>
 gA (gB x131 false) (pL Tryz.prog (oConv 30 9 x133) w76) fun x134 =>
 gA (gB x131 false) (pA Tryz.prog (oMv x62)) fun x135 =>
 gA (gB x131 false) (pL Tryz.prog (oConv 30 9 x135) w76) fun x136 =>
 gA (gB x131 false) (pA Tryz.prog (oBin .neq 9 (.tmp 134) (.tmp 136) x134 x136)) fun x137 =>
 pA Tryz.prog (oPick x131 (.bool true) x137) fun x138 =>
 gA (gB x138 false) (pA Tryz.prog (oMv x62)) fun x140 =>
 gA (gB x138 false) (pA Tryz.prog (oBi .len #[30] 3 [false] [x140])) fun x141 =>
 gA (gB x138 false) (pA Tryz.prog (oMv x34)) fun x142 =>
 gA (gB x138 false) (pA Tryz.prog (oBin .neq 3 (.tmp 141) (.tmp 142) x141 x142)) fun x143 =>
 pA Tryz.prog (oPick x138 (.bool true) x143) fun x144 =>
 gA (gB x144 false) (pA Tryz.prog (oMv x39)) fun x146 =>
 gA (gB x144 false) (pA Tryz.prog (oMv x32)) fun x149 =>
 gA (gB x144 false) (pL Tryz.prog (oConv 30 9 x149) w76) fun x150 =>
 pGd (gB x144 false) (pN Tryz.prog (oCall 21 [x146]) w76) w76 fun x147 w77 =>
 ((((gB x144 false) = true → Sem.run Tryz.prog (oConv 30 9 x149) w77 = .ok (.value x150) w77)) ∧ True) ∧ (gA (gB x144 false) (pL Tryz.prog (oConv 30 9 x147) w77) fun x148 =>
 gA (gB x144 false) (pA Tryz.prog (oBin .neq 9 (.tmp 148) (.tmp 150) x148 x150)) fun x151 =>
 pA Tryz.prog (oPick x144 (.bool true) x151) fun x152 =>
 gA (gB x152 false) (pA Tryz.prog (oMv x32)) fun x154 =>
 gA (gB x152 false) (pA Tryz.prog (oBi .len #[30] 3 [false] [x154])) fun x155 =>
 gA (gB x152 false) (pA Tryz.prog (oBin .lss 3 (.tmp 155) (.const (.int .i64 5)) x155 (.int .i64 5))) fun x156 =>
 pA Tryz.prog (oPick x152 (.bool true) x156) fun x157 =>
 pIf x157
 (Q (.bool false) w77)
 (pDr w77 fun w78 =>
 pA Tryz.prog (oBi .len #[30] 3 [false] [x32]) fun x160 =>
 pA Tryz.prog (oBin .sub 3 (.tmp 160) (.const (.int .i64 1)) x160 (.int .i64 1)) fun x161 =>
 pA Tryz.prog (oSl 30 x32 none (some x161) none) fun x162 =>
 pA Tryz.prog (oSl 30 x32 (some (.int .i64 1)) none none) fun x170 =>
 (pN Tryz.prog (oBs 30 0 []) w78 fun x163 w79 =>
 (True) ∧ ((pN Tryz.prog (oBi .append #[30, 30] 30 [false, false] [x163, x32]) w79 fun x165 w80 =>
 (True) ∧ ((pN Tryz.prog (oBs 30 1 [(0, (bv 0))]) w80 fun x166 w81 =>
 (True) ∧ ((pN Tryz.prog (oBi .append #[30, 30] 30 [false, false] [x165, x166]) w81 fun x167 w82 =>
 (True) ∧ (pN Tryz.prog (oBs 30 1 [(0, (bv 1))]) w82 fun x168 w83 =>
 (True) ∧ (pN Tryz.prog (oBi .append #[30, 30] 30 [false, false] [x168, x170]) w83 fun x171 w84 =>
 (True) ∧ (pN Tryz.prog (oBs 92 3 [(0, x162), (1, x167), (2, x171)]) w84 fun x172 w85 =>
 (True) ∧ (∃ (L24 : Value → World → Prop) (m24 : Value → World → Nat),
 L24 (.int .i64 0) w85 ∧
 ∀ (_k24 : Env) (i21l24 : Value) (w86 : World), L24 i21l24 w86 →
 pN Tryz.prog (oBi .len #[92] 3 [false] [x172]) w86 fun x175 w87 =>
 pN Tryz.prog (oBin .lss 3 (.tmp 173) (.tmp 175) i21l24 x175) w87 fun x176 w88 =>
 pIf x176
 (pN Tryz.prog (oLoad 23 x3) w88 fun x180 w89 =>
 pN Tryz.prog (oCall 41 [x180, x30]) w89 fun x182 w90 =>
 pN Tryz.prog (oExt x182 0) w90 fun x183 w91 =>
 pN Tryz.prog (oExt x182 1) w91 fun _ w92 =>
 pN Tryz.prog (oBs 30 0 []) w92 fun x187 w93 =>
 pN Tryz.prog (oIdx 92 x172 i21l24) w93 fun x190 w94 =>
 pN Tryz.prog (oLoad 30 x190) w94 fun x191 w95 =>
 pN Tryz.prog (oBi .append #[30, 30] 30 [false, false] [x187, x191]) w95 fun x192 w96 =>
 pN Tryz.prog (oCall 39 [x183, x192, x34]) w96 fun x194 w97 =>
 pN Tryz.prog (oExt x194 0) w97 fun _ w98 =>
 pN Tryz.prog (oExt x194 1) w98 fun _ w99 =>
 pN Tryz.prog (oExt x194 2) w99 fun x197 w100 =>
 pN Tryz.prog (oBin .neq 38 (.tmp 198) (.const (.int .i64 2)) x197 (.int .i64 2)) w100 fun x199 w101 =>
 pIf x199
 (Q (.bool false) w101)
 (pN Tryz.prog (oBin .add 3 (.tmp 177) (.const (.int .i64 1)) i21l24 (.int .i64 1)) w101 fun x178 w102 =>
 (L24 x178 w102 ∧ m24 x178 w102 < m24 i21l24 w86)))
 (Q (.bool true) w88)))))) ∧ (pN Tryz.prog (oBs 30 1 [(0, (bv 1))]) w81 fun x168 w103 =>
 (True) ∧ (pN Tryz.prog (oBi .append #[30, 30] 30 [false, false] [x165, x166]) w103 fun x167 w104 =>
 (True) ∧ (pN Tryz.prog (oBi .append #[30, 30] 30 [false, false] [x168, x170]) w104 fun x171 w105 =>
 (True) ∧ (pN Tryz.prog (oBs 92 3 [(0, x162), (1, x167), (2, x171)]) w105 fun x172 w106 =>
 (True) ∧ (∃ (L24 : Value → World → Prop) (m24 : Value → World → Nat),
 L24 (.int .i64 0) w106 ∧
 ∀ (_k24 : Env) (i21l24 : Value) (w107 : World), L24 i21l24 w107 →
 pN Tryz.prog (oBi .len #[92] 3 [false] [x172]) w107 fun x175 w108 =>
 pN Tryz.prog (oBin .lss 3 (.tmp 173) (.tmp 175) i21l24 x175) w108 fun x176 w109 =>
 pIf x176
 (pN Tryz.prog (oLoad 23 x3) w109 fun x180 w110 =>
 pN Tryz.prog (oCall 41 [x180, x30]) w110 fun x182 w111 =>
 pN Tryz.prog (oExt x182 0) w111 fun x183 w112 =>
 pN Tryz.prog (oExt x182 1) w112 fun _ w113 =>
 pN Tryz.prog (oBs 30 0 []) w113 fun x187 w114 =>
 pN Tryz.prog (oIdx 92 x172 i21l24) w114 fun x190 w115 =>
 pN Tryz.prog (oLoad 30 x190) w115 fun x191 w116 =>
 pN Tryz.prog (oBi .append #[30, 30] 30 [false, false] [x187, x191]) w116 fun x192 w117 =>
 pN Tryz.prog (oCall 39 [x183, x192, x34]) w117 fun x194 w118 =>
 pN Tryz.prog (oExt x194 0) w118 fun _ w119 =>
 pN Tryz.prog (oExt x194 1) w119 fun _ w120 =>
 pN Tryz.prog (oExt x194 2) w120 fun x197 w121 =>
 pN Tryz.prog (oBin .neq 38 (.tmp 198) (.const (.int .i64 2)) x197 (.int .i64 2)) w121 fun x199 w122 =>
 pIf x199
 (Q (.bool false) w122)
 (pN Tryz.prog (oBin .add 3 (.tmp 177) (.const (.int .i64 1)) i21l24 (.int .i64 1)) w122 fun x178 w123 =>
 (L24 x178 w123 ∧ m24 x178 w123 < m24 i21l24 w107)))
 (Q (.bool true) w109)))))))) ∧ (pN Tryz.prog (oBs 30 1 [(0, (bv 1))]) w80 fun x168 w124 =>
 (True) ∧ (pN Tryz.prog (oBs 30 1 [(0, (bv 0))]) w124 fun x166 w125 =>
 (True) ∧ (pN Tryz.prog (oBi .append #[30, 30] 30 [false, false] [x165, x166]) w125 fun x167 w126 =>
 (True) ∧ (pN Tryz.prog (oBi .append #[30, 30] 30 [false, false] [x168, x170]) w126 fun x171 w127 =>
 (True) ∧ (pN Tryz.prog (oBs 92 3 [(0, x162), (1, x167), (2, x171)]) w127 fun x172 w128 =>
 (True) ∧ (∃ (L24 : Value → World → Prop) (m24 : Value → World → Nat),
 L24 (.int .i64 0) w128 ∧
 ∀ (_k24 : Env) (i21l24 : Value) (w129 : World), L24 i21l24 w129 →
 pN Tryz.prog (oBi .len #[92] 3 [false] [x172]) w129 fun x175 w130 =>
 pN Tryz.prog (oBin .lss 3 (.tmp 173) (.tmp 175) i21l24 x175) w130 fun x176 w131 =>
 pIf x176
 (pN Tryz.prog (oLoad 23 x3) w131 fun x180 w132 =>
 pN Tryz.prog (oCall 41 [x180, x30]) w132 fun x182 w133 =>
 pN Tryz.prog (oExt x182 0) w133 fun x183 w134 =>
 pN Tryz.prog (oExt x182 1) w134 fun _ w135 =>
 pN Tryz.prog (oBs 30 0 []) w135 fun x187 w136 =>
 pN Tryz.prog (oIdx 92 x172 i21l24) w136 fun x190 w137 =>
 pN Tryz.prog (oLoad 30 x190) w137 fun x191 w138 =>
 pN Tryz.prog (oBi .append #[30, 30] 30 [false, false] [x187, x191]) w138 fun x192 w139 =>
 pN Tryz.prog (oCall 39 [x183, x192, x34]) w139 fun x194 w140 =>
 pN Tryz.prog (oExt x194 0) w140 fun _ w141 =>
 pN Tryz.prog (oExt x194 1) w141 fun _ w142 =>
 pN Tryz.prog (oExt x194 2) w142 fun x197 w143 =>
 pN Tryz.prog (oBin .neq 38 (.tmp 198) (.const (.int .i64 2)) x197 (.int .i64 2)) w143 fun x199 w144 =>
 pIf x199
 (Q (.bool false) w144)
 (pN Tryz.prog (oBin .add 3 (.tmp 177) (.const (.int .i64 1)) i21l24 (.int .i64 1)) w144 fun x178 w145 =>
 (L24 x178 w145 ∧ m24 x178 w145 < m24 i21l24 w129)))
 (Q (.bool true) w131))))))))) ∧ ((pN Tryz.prog (oBs 30 1 [(0, (bv 0))]) w79 fun x166 w146 =>
 (True) ∧ ((pN Tryz.prog (oBi .append #[30, 30] 30 [false, false] [x163, x32]) w146 fun x165 w147 =>
 (True) ∧ ((pN Tryz.prog (oBi .append #[30, 30] 30 [false, false] [x165, x166]) w147 fun x167 w148 =>
 (True) ∧ (pN Tryz.prog (oBs 30 1 [(0, (bv 1))]) w148 fun x168 w149 =>
 (True) ∧ (pN Tryz.prog (oBi .append #[30, 30] 30 [false, false] [x168, x170]) w149 fun x171 w150 =>
 (True) ∧ (pN Tryz.prog (oBs 92 3 [(0, x162), (1, x167), (2, x171)]) w150 fun x172 w151 =>
 (True) ∧ (∃ (L24 : Value → World → Prop) (m24 : Value → World → Nat),
 L24 (.int .i64 0) w151 ∧
 ∀ (_k24 : Env) (i21l24 : Value) (w152 : World), L24 i21l24 w152 →
 pN Tryz.prog (oBi .len #[92] 3 [false] [x172]) w152 fun x175 w153 =>
 pN Tryz.prog (oBin .lss 3 (.tmp 173) (.tmp 175) i21l24 x175) w153 fun x176 w154 =>
 pIf x176
 (pN Tryz.prog (oLoad 23 x3) w154 fun x180 w155 =>
 pN Tryz.prog (oCall 41 [x180, x30]) w155 fun x182 w156 =>
 pN Tryz.prog (oExt x182 0) w156 fun x183 w157 =>
 pN Tryz.prog (oExt x182 1) w157 fun _ w158 =>
 pN Tryz.prog (oBs 30 0 []) w158 fun x187 w159 =>
 pN Tryz.prog (oIdx 92 x172 i21l24) w159 fun x190 w160 =>
 pN Tryz.prog (oLoad 30 x190) w160 fun x191 w161 =>
 pN Tryz.prog (oBi .append #[30, 30] 30 [false, false] [x187, x191]) w161 fun x192 w162 =>
 pN Tryz.prog (oCall 39 [x183, x192, x34]) w162 fun x194 w163 =>
 pN Tryz.prog (oExt x194 0) w163 fun _ w164 =>
 pN Tryz.prog (oExt x194 1) w164 fun _ w165 =>
 pN Tryz.prog (oExt x194 2) w165 fun x197 w166 =>
 pN Tryz.prog (oBin .neq 38 (.tmp 198) (.const (.int .i64 2)) x197 (.int .i64 2)) w166 fun x199 w167 =>
 pIf x199
 (Q (.bool false) w167)
 (pN Tryz.prog (oBin .add 3 (.tmp 177) (.const (.int .i64 1)) i21l24 (.int .i64 1)) w167 fun x178 w168 =>
 (L24 x178 w168 ∧ m24 x178 w168 < m24 i21l24 w152)))
 (Q (.bool true) w154)))))) ∧ (pN Tryz.prog (oBs 30 1 [(0, (bv 1))]) w147 fun x168 w169 =>
 (True) ∧ (pN Tryz.prog (oBi .append #[30, 30] 30 [false, false] [x165, x166]) w169 fun x167 w170 =>
 (True) ∧ (pN Tryz.prog (oBi .append #[30, 30] 30 [false, false] [x168, x170]) w170 fun x171 w171 =>
 (True) ∧ (pN Tryz.prog (oBs 92 3 [(0, x162), (1, x167), (2, x171)]) w171 fun x172 w172 =>
 (True) ∧ (∃ (L24 : Value → World → Prop) (m24 : Value → World → Nat),
 L24 (.int .i64 0) w172 ∧
 ∀ (_k24 : Env) (i21l24 : Value) (w173 : World), L24 i21l24 w173 →
 pN Tryz.prog (oBi .len #[92] 3 [false] [x172]) w173 fun x175 w174 =>
 pN Tryz.prog (oBin .lss 3 (.tmp 173) (.tmp 175) i21l24 x175) w174 fun x176 w175 =>
 pIf x176
 (pN Tryz.prog (oLoad 23 x3) w175 fun x180 w176 =>
 pN Tryz.prog (oCall 41 [x180, x30]) w176 fun x182 w177 =>
 pN Tryz.prog (oExt x182 0) w177 fun x183 w178 =>
 pN Tryz.prog (oExt x182 1) w178 fun _ w179 =>
 pN Tryz.prog (oBs 30 0 []) w179 fun x187 w180 =>
 pN Tryz.prog (oIdx 92 x172 i21l24) w180 fun x190 w181 =>
 pN Tryz.prog (oLoad 30 x190) w181 fun x191 w182 =>
 pN Tryz.prog (oBi .append #[30, 30] 30 [false, false] [x187, x191]) w182 fun x192 w183 =>
 pN Tryz.prog (oCall 39 [x183, x192, x34]) w183 fun x194 w184 =>
 pN Tryz.prog (oExt x194 0) w184 fun _ w185 =>
 pN Tryz.prog (oExt x194 1) w185 fun _ w186 =>
 pN Tryz.prog (oExt x194 2) w186 fun x197 w187 =>
 pN Tryz.prog (oBin .neq 38 (.tmp 198) (.const (.int .i64 2)) x197 (.int .i64 2)) w187 fun x199 w188 =>
 pIf x199
 (Q (.bool false) w188)
 (pN Tryz.prog (oBin .add 3 (.tmp 177) (.const (.int .i64 1)) i21l24 (.int .i64 1)) w188 fun x178 w189 =>
 (L24 x178 w189 ∧ m24 x178 w189 < m24 i21l24 w173)))
 (Q (.bool true) w175)))))))) ∧ (pN Tryz.prog (oBs 30 1 [(0, (bv 1))]) w146 fun x168 w190 =>
 (True) ∧ (pN Tryz.prog (oBi .append #[30, 30] 30 [false, false] [x163, x32]) w190 fun x165 w191 =>
 (True) ∧ (pN Tryz.prog (oBi .append #[30, 30] 30 [false, false] [x165, x166]) w191 fun x167 w192 =>
 (True) ∧ (pN Tryz.prog (oBi .append #[30, 30] 30 [false, false] [x168, x170]) w192 fun x171 w193 =>
 (True) ∧ (pN Tryz.prog (oBs 92 3 [(0, x162), (1, x167), (2, x171)]) w193 fun x172 w194 =>
 (True) ∧ (∃ (L24 : Value → World → Prop) (m24 : Value → World → Nat),
 L24 (.int .i64 0) w194 ∧
 ∀ (_k24 : Env) (i21l24 : Value) (w195 : World), L24 i21l24 w195 →
 pN Tryz.prog (oBi .len #[92] 3 [false] [x172]) w195 fun x175 w196 =>
 pN Tryz.prog (oBin .lss 3 (.tmp 173) (.tmp 175) i21l24 x175) w196 fun x176 w197 =>
 pIf x176
 (pN Tryz.prog (oLoad 23 x3) w197 fun x180 w198 =>
 pN Tryz.prog (oCall 41 [x180, x30]) w198 fun x182 w199 =>
 pN Tryz.prog (oExt x182 0) w199 fun x183 w200 =>
 pN Tryz.prog (oExt x182 1) w200 fun _ w201 =>
 pN Tryz.prog (oBs 30 0 []) w201 fun x187 w202 =>
 pN Tryz.prog (oIdx 92 x172 i21l24) w202 fun x190 w203 =>
 pN Tryz.prog (oLoad 30 x190) w203 fun x191 w204 =>
 pN Tryz.prog (oBi .append #[30, 30] 30 [false, false] [x187, x191]) w204 fun x192 w205 =>
 pN Tryz.prog (oCall 39 [x183, x192, x34]) w205 fun x194 w206 =>
 pN Tryz.prog (oExt x194 0) w206 fun _ w207 =>
 pN Tryz.prog (oExt x194 1) w207 fun _ w208 =>
 pN Tryz.prog (oExt x194 2) w208 fun x197 w209 =>
 pN Tryz.prog (oBin .neq 38 (.tmp 198) (.const (.int .i64 2)) x197 (.int .i64 2)) w209 fun x199 w210 =>
 pIf x199
 (Q (.bool false) w210)
 (pN Tryz.prog (oBin .add 3 (.tmp 177) (.const (.int .i64 1)) i21l24 (.int .i64 1)) w210 fun x178 w211 =>
 (L24 x178 w211 ∧ m24 x178 w211 < m24 i21l24 w195)))
 (Q (.bool true) w197))))))))) ∧ (pN Tryz.prog (oBs 30 1 [(0, (bv 1))]) w79 fun x168 w212 =>
 (True) ∧ ((pN Tryz.prog (oBi .append #[30, 30] 30 [false, false] [x163, x32]) w212 fun x165 w213 =>
 (True) ∧ (pN Tryz.prog (oBs 30 1 [(0, (bv 0))]) w213 fun x166 w214 =>
 (True) ∧ (pN Tryz.prog (oBi .append #[30, 30] 30 [false, false] [x165, x166]) w214 fun x167 w215 =>
 (True) ∧ (pN Tryz.prog (oBi .append #[30, 30] 30 [false, false] [x168, x170]) w215 fun x171 w216 =>
 (True) ∧ (pN Tryz.prog (oBs 92 3 [(0, x162), (1, x167), (2, x171)]) w216 fun x172 w217 =>
 (True) ∧ (∃ (L24 : Value → World → Prop) (m24 : Value → World → Nat),
 L24 (.int .i64 0) w217 ∧
 ∀ (_k24 : Env) (i21l24 : Value) (w218 : World), L24 i21l24 w218 →
 pN Tryz.prog (oBi .len #[92] 3 [false] [x172]) w218 fun x175 w219 =>
 pN Tryz.prog (oBin .lss 3 (.tmp 173) (.tmp 175) i21l24 x175) w219 fun x176 w220 =>
 pIf x176
 (pN Tryz.prog (oLoad 23 x3) w220 fun x180 w221 =>
 pN Tryz.prog (oCall 41 [x180, x30]) w221 fun x182 w222 =>
 pN Tryz.prog (oExt x182 0) w222 fun x183 w223 =>
 pN Tryz.prog (oExt x182 1) w223 fun _ w224 =>
 pN Tryz.prog (oBs 30 0 []) w224 fun x187 w225 =>
 pN Tryz.prog (oIdx 92 x172 i21l24) w225 fun x190 w226 =>
 pN Tryz.prog (oLoad 30 x190) w226 fun x191 w227 =>
 pN Tryz.prog (oBi .append #[30, 30] 30 [false, false] [x187, x191]) w227 fun x192 w228 =>
 pN Tryz.prog (oCall 39 [x183, x192, x34]) w228 fun x194 w229 =>
 pN Tryz.prog (oExt x194 0) w229 fun _ w230 =>
 pN Tryz.prog (oExt x194 1) w230 fun _ w231 =>
 pN Tryz.prog (oExt x194 2) w231 fun x197 w232 =>
 pN Tryz.prog (oBin .neq 38 (.tmp 198) (.const (.int .i64 2)) x197 (.int .i64 2)) w232 fun x199 w233 =>
 pIf x199
 (Q (.bool false) w233)
 (pN Tryz.prog (oBin .add 3 (.tmp 177) (.const (.int .i64 1)) i21l24 (.int .i64 1)) w233 fun x178 w234 =>
 (L24 x178 w234 ∧ m24 x178 w234 < m24 i21l24 w218)))
 (Q (.bool true) w220))))))) ∧ (pN Tryz.prog (oBs 30 1 [(0, (bv 0))]) w212 fun x166 w235 =>
 (True) ∧ (pN Tryz.prog (oBi .append #[30, 30] 30 [false, false] [x163, x32]) w235 fun x165 w236 =>
 (True) ∧ (pN Tryz.prog (oBi .append #[30, 30] 30 [false, false] [x165, x166]) w236 fun x167 w237 =>
 (True) ∧ (pN Tryz.prog (oBi .append #[30, 30] 30 [false, false] [x168, x170]) w237 fun x171 w238 =>
 (True) ∧ (pN Tryz.prog (oBs 92 3 [(0, x162), (1, x167), (2, x171)]) w238 fun x172 w239 =>
 (True) ∧ (∃ (L24 : Value → World → Prop) (m24 : Value → World → Nat),
 L24 (.int .i64 0) w239 ∧
 ∀ (_k24 : Env) (i21l24 : Value) (w240 : World), L24 i21l24 w240 →
 pN Tryz.prog (oBi .len #[92] 3 [false] [x172]) w240 fun x175 w241 =>
 pN Tryz.prog (oBin .lss 3 (.tmp 173) (.tmp 175) i21l24 x175) w241 fun x176 w242 =>
 pIf x176
 (pN Tryz.prog (oLoad 23 x3) w242 fun x180 w243 =>
 pN Tryz.prog (oCall 41 [x180, x30]) w243 fun x182 w244 =>
 pN Tryz.prog (oExt x182 0) w244 fun x183 w245 =>
 pN Tryz.prog (oExt x182 1) w245 fun _ w246 =>
 pN Tryz.prog (oBs 30 0 []) w246 fun x187 w247 =>
 pN Tryz.prog (oIdx 92 x172 i21l24) w247 fun x190 w248 =>
 pN Tryz.prog (oLoad 30 x190) w248 fun x191 w249 =>
 pN Tryz.prog (oBi .append #[30, 30] 30 [false, false] [x187, x191]) w249 fun x192 w250 =>
 pN Tryz.prog (oCall 39 [x183, x192, x34]) w250 fun x194 w251 =>
 pN Tryz.prog (oExt x194 0) w251 fun _ w252 =>
 pN Tryz.prog (oExt x194 1) w252 fun _ w253 =>
 pN Tryz.prog (oExt x194 2) w253 fun x197 w254 =>
 pN Tryz.prog (oBin .neq 38 (.tmp 198) (.const (.int .i64 2)) x197 (.int .i64 2)) w254 fun x199 w255 =>
 pIf x199
 (Q (.bool false) w255)
 (pN Tryz.prog (oBin .add 3 (.tmp 177) (.const (.int .i64 1)) i21l24 (.int .i64 1)) w255 fun x178 w256 =>
 (L24 x178 w256 ∧ m24 x178 w256 < m24 i21l24 w240)))
 (Q (.bool true) w242)))))))))))) ∧ ((pN Tryz.prog (oBs 30 1 [(0, (bv 0))]) w78 fun x166 w257 =>
 (True) ∧ ((pN Tryz.prog (oBs 30 0 []) w257 fun x163 w258 =>
 (True) ∧ ((pN Tryz.prog (oBi .append #[30, 30] 30 [false, false] [x163, x32]) w258 fun x165 w259 =>
 (True) ∧ ((pN Tryz.prog (oBi .append #[30, 30] 30 [false, false] [x165, x166]) w259 fun x167 w260 =>
 (True) ∧ (pN Tryz.prog (oBs 30 1 [(0, (bv 1))]) w260 fun x168 w261 =>
 (True) ∧ (pN Tryz.prog (oBi .append #[30, 30] 30 [false, false] [x168, x170]) w261 fun x171 w262 =>
 (True) ∧ (pN Tryz.prog (oBs 92 3 [(0, x162), (1, x167), (2, x171)]) w262 fun x172 w263 =>
 (True) ∧ (∃ (L24 : Value → World → Prop) (m24 : Value → World → Nat),
 L24 (.int .i64 0) w263 ∧
 ∀ (_k24 : Env) (i21l24 : Value) (w264 : World), L24 i21l24 w264 →
 pN Tryz.prog (oBi .len #[92] 3 [false] [x172]) w264 fun x175 w265 =>
 pN Tryz.prog (oBin .lss 3 (.tmp 173) (.tmp 175) i21l24 x175) w265 fun x176 w266 =>
 pIf x176
 (pN Tryz.prog (oLoad 23 x3) w266 fun x180 w267 =>
 pN Tryz.prog (oCall 41 [x180, x30]) w267 fun x182 w268 =>
 pN Tryz.prog (oExt x182 0) w268 fun x183 w269 =>
 pN Tryz.prog (oExt x182 1) w269 fun _ w270 =>
 pN Tryz.prog (oBs 30 0 []) w270 fun x187 w271 =>
 pN Tryz.prog (oIdx 92 x172 i21l24) w271 fun x190 w272 =>
 pN Tryz.prog (oLoad 30 x190) w272 fun x191 w273 =>
 pN Tryz.prog (oBi .append #[30, 30] 30 [false, false] [x187, x191]) w273 fun x192 w274 =>
 pN Tryz.prog (oCall 39 [x183, x192, x34]) w274 fun x194 w275 =>
 pN Tryz.prog (oExt x194 0) w275 fun _ w276 =>
 pN Tryz.prog (oExt x194 1) w276 fun _ w277 =>
 pN Tryz.prog (oExt x194 2) w277 fun x197 w278 =>
 pN Tryz.prog (oBin .neq 38 (.tmp 198) (.const (.int .i64 2)) x197 (.int .i64 2)) w278 fun x199 w279 =>
 pIf x199
 (Q (.bool false) w279)
 (pN Tryz.prog (oBin .add 3 (.tmp 177) (.const (.int .i64 1)) i21l24 (.int .i64 1)) w279 fun x178 w280 =>
 (L24 x178 w280 ∧ m24 x178 w280 < m24 i21l24 w264)))
 (Q (.bool true) w266)))))) ∧ (pN Tryz.prog (oBs 30 1 [(0, (bv 1))]) w259 fun x168 w281 =>
 (True) ∧ (pN Tryz.prog (oBi .append #[30, 30] 30 [false, false] [x165, x166]) w281 fun x167 w282 =>
 (True) ∧ (pN Tryz.prog (oBi .append #[30, 30] 30 [false, false] [x168, x170]) w282 fun x171 w283 =>
 (True) ∧ (pN Tryz.prog (oBs 92 3 [(0, x162), (1, x167), (2, x171)]) w283 fun x172 w284 =>
 (True) ∧ (∃ (L24 : Value → World → Prop) (m24 : Value → World → Nat),
 L24 (.int .i64 0) w284 ∧
 ∀ (_k24 : Env) (i21l24 : Value) (w285 : World), L24 i21l24 w285 →
 pN Tryz.prog (oBi .len #[92] 3 [false] [x172]) w285 fun x175 w286 =>
 pN Tryz.prog (oBin .lss 3 (.tmp 173) (.tmp 175) i21l24 x175) w286 fun x176 w287 =>
 pIf x176
 (pN Tryz.prog (oLoad 23 x3) w287 fun x180 w288 =>
 pN Tryz.prog (oCall 41 [x180, x30]) w288 fun x182 w289 =>
 pN Tryz.prog (oExt x182 0) w289 fun x183 w290 =>
 pN Tryz.prog (oExt x182 1) w290 fun _ w291 =>
 pN Tryz.prog (oBs 30 0 []) w291 fun x187 w292 =>
 pN Tryz.prog (oIdx 92 x172 i21l24) w292 fun x190 w293 =>
 pN Tryz.prog (oLoad 30 x190) w293 fun x191 w294 =>
 pN Tryz.prog (oBi .append #[30, 30] 30 [false, false] [x187, x191]) w294 fun x192 w295 =>
 pN Tryz.prog (oCall 39 [x183, x192, x34]) w295 fun x194 w296 =>
 pN Tryz.prog (oExt x194 0) w296 fun _ w297 =>
 pN Tryz.prog (oExt x194 1) w297 fun _ w298 =>
 pN Tryz.prog (oExt x194 2) w298 fun x197 w299 =>
 pN Tryz.prog (oBin .neq 38 (.tmp 198) (.const (.int .i64 2)) x197 (.int .i64 2)) w299 fun x199 w300 =>
 pIf x199
 (Q (.bool false) w300)
 (pN Tryz.prog (oBin .add 3 (.tmp 177) (.const (.int .i64 1)) i21l24 (.int .i64 1)) w300 fun x178 w301 =>
 (L24 x178 w301 ∧ m24 x178 w301 < m24 i21l24 w285)))
 (Q (.bool true) w287)))))))) ∧ (pN Tryz.prog (oBs 30 1 [(0, (bv 1))]) w258 fun x168 w302 =>
 (True) ∧ (pN Tryz.prog (oBi .append #[30, 30] 30 [false, false] [x163, x32]) w302 fun x165 w303 =>
 (True) ∧ (pN Tryz.prog (oBi .append #[30, 30] 30 [false, false] [x165, x166]) w303 fun x167 w304 =>
 (True) ∧ (pN Tryz.prog (oBi .append #[30, 30] 30 [false, false] [x168, x170]) w304 fun x171 w305 =>
 (True) ∧ (pN Tryz.prog (oBs 92 3 [(0, x162), (1, x167), (2, x171)]) w305 fun x172 w306 =>
 (True) ∧ (∃ (L24 : Value → World → Prop) (m24 : Value → World → Nat),
 L24 (.int .i64 0) w306 ∧
 ∀ (_k24 : Env) (i21l24 : Value) (w307 : World), L24 i21l24 w307 →
 pN Tryz.prog (oBi .len #[92] 3 [false] [x172]) w307 fun x175 w308 =>
 pN Tryz.prog (oBin .lss 3 (.tmp 173) (.tmp 175) i21l24 x175) w308 fun x176 w309 =>
 pIf x176
 (pN Tryz.prog (oLoad 23 x3) w309 fun x180 w310 =>
 pN Tryz.prog (oCall 41 [x180, x30]) w310 fun x182 w311 =>
 pN Tryz.prog (oExt x182 0) w311 fun x183 w312 =>
 pN Tryz.prog (oExt x182 1) w312 fun _ w313 =>
 pN Tryz.prog (oBs 30 0 []) w313 fun x187 w314 =>
 pN Tryz.prog (oIdx 92 x172 i21l24) w314 fun x190 w315 =>
 pN Tryz.prog (oLoad 30 x190) w315 fun x191 w316 =>
 pN Tryz.prog (oBi .append #[30, 30] 30 [false, false] [x187, x191]) w316 fun x192 w317 =>
 pN Tryz.prog (oCall 39 [x183, x192, x34]) w317 fun x194 w318 =>
 pN Tryz.prog (oExt x194 0) w318 fun _ w319 =>
 pN Tryz.prog (oExt x194 1) w319 fun _ w320 =>
 pN Tryz.prog (oExt x194 2) w320 fun x197 w321 =>
 pN Tryz.prog (oBin .neq 38 (.tmp 198) (.const (.int .i64 2)) x197 (.int .i64 2)) w321 fun x199 w322 =>
 pIf x199
 (Q (.bool false) w322)
 (pN Tryz.prog (oBin .add 3 (.tmp 177) (.const (.int .i64 1)) i21l24 (.int .i64 1)) w322 fun x178 w323 =>
 (L24 x178 w323 ∧ m24 x178 w323 < m24 i21l24 w307)))
 (Q (.bool true) w309))))))))) ∧ (pN Tryz.prog (oBs 30 1 [(0, (bv 1))]) w257 fun x168 w324 =>
 (True) ∧ (pN Tryz.prog (oBs 30 0 []) w324 fun x163 w325 =>
 (True) ∧ (pN Tryz.prog (oBi .append #[30, 30] 30 [false, false] [x163, x32]) w325 fun x165 w326 =>
 (True) ∧ (pN Tryz.prog (oBi .append #[30, 30] 30 [false, false] [x165, x166]) w326 fun x167 w327 =>
 (True) ∧ (pN Tryz.prog (oBi .append #[30, 30] 30 [false, false] [x168, x170]) w327 fun x171 w328 =>
 (True) ∧ (pN Tryz.prog (oBs 92 3 [(0, x162), (1, x167), (2, x171)]) w328 fun x172 w329 =>
 (True) ∧ (∃ (L24 : Value → World → Prop) (m24 : Value → World → Nat),
 L24 (.int .i64 0) w329 ∧
 ∀ (_k24 : Env) (i21l24 : Value) (w330 : World), L24 i21l24 w330 →
 pN Tryz.prog (oBi .len #[92] 3 [false] [x172]) w330 fun x175 w331 =>
 pN Tryz.prog (oBin .lss 3 (.tmp 173) (.tmp 175) i21l24 x175) w331 fun x176 w332 =>
 pIf x176
 (pN Tryz.prog (oLoad 23 x3) w332 fun x180 w333 =>
 pN Tryz.prog (oCall 41 [x180, x30]) w333 fun x182 w334 =>
 pN Tryz.prog (oExt x182 0) w334 fun x183 w335 =>
 pN Tryz.prog (oExt x182 1) w335 fun _ w336 =>
 pN Tryz.prog (oBs 30 0 []) w336 fun x187 w337 =>
 pN Tryz.prog (oIdx 92 x172 i21l24) w337 fun x190 w338 =>
 pN Tryz.prog (oLoad 30 x190) w338 fun x191 w339 =>
 pN Tryz.prog (oBi .append #[30, 30] 30 [false, false] [x187, x191]) w339 fun x192 w340 =>
 pN Tryz.prog (oCall 39 [x183, x192, x34]) w340 fun x194 w341 =>
 pN Tryz.prog (oExt x194 0) w341 fun _ w342 =>
 pN Tryz.prog (oExt x194 1) w342 fun _ w343 =>
 pN Tryz.prog (oExt x194 2) w343 fun x197 w344 =>
 pN Tryz.prog (oBin .neq 38 (.tmp 198) (.const (.int .i64 2)) x197 (.int .i64 2)) w344 fun x199 w345 =>
 pIf x199
 (Q (.bool false) w345)
 (pN Tryz.prog (oBin .add 3 (.tmp 177) (.const (.int .i64 1)) i21l24 (.int .i64 1)) w345 fun x178 w346 =>
 (L24 x178 w346 ∧ m24 x178 w346 < m24 i21l24 w330)))
 (Q (.bool true) w332)))))))))) ∧ (pN Tryz.prog (oBs 30 1 [(0, (bv 1))]) w78 fun x168 w347 =>
 (True) ∧ ((pN Tryz.prog (oBs 30 0 []) w347 fun x163 w348 =>
 (True) ∧ ((pN Tryz.prog (oBi .append #[30, 30] 30 [false, false] [x163, x32]) w348 fun x165 w349 =>
 (True) ∧ (pN Tryz.prog (oBs 30 1 [(0, (bv 0))]) w349 fun x166 w350 =>
 (True) ∧ (pN Tryz.prog (oBi .append #[30, 30] 30 [false, false] [x165, x166]) w350 fun x167 w351 =>
 (True) ∧ (pN Tryz.prog (oBi .append #[30, 30] 30 [false, false] [x168, x170]) w351 fun x171 w352 =>
 (True) ∧ (pN Tryz.prog (oBs 92 3 [(0, x162), (1, x167), (2, x171)]) w352 fun x172 w353 =>
 (True) ∧ (∃ (L24 : Value → World → Prop) (m24 : Value → World → Nat),
 L24 (.int .i64 0) w353 ∧
 ∀ (_k24 : Env) (i21l24 : Value) (w354 : World), L24 i21l24 w354 →
 pN Tryz.prog (oBi .len #[92] 3 [false] [x172]) w354 fun x175 w355 =>
 pN Tryz.prog (oBin .lss 3 (.tmp 173) (.tmp 175) i21l24 x175) w355 fun x176 w356 =>
 pIf x176
 (pN Tryz.prog (oLoad 23 x3) w356 fun x180 w357 =>
 pN Tryz.prog (oCall 41 [x180, x30]) w357 fun x182 w358 =>
 pN Tryz.prog (oExt x182 0) w358 fun x183 w359 =>
 pN Tryz.prog (oExt x182 1) w359 fun _ w360 =>
 pN Tryz.prog (oBs 30 0 []) w360 fun x187 w361 =>
 pN Tryz.prog (oIdx 92 x172 i21l24) w361 fun x190 w362 =>
 pN Tryz.prog (oLoad 30 x190) w362 fun x191 w363 =>
 pN Tryz.prog (oBi .append #[30, 30] 30 [false, false] [x187, x191]) w363 fun x192 w364 =>
 pN Tryz.prog (oCall 39 [x183, x192, x34]) w364 fun x194 w365 =>
 pN Tryz.prog (oExt x194 0) w365 fun _ w366 =>
 pN Tryz.prog (oExt x194 1) w366 fun _ w367 =>
 pN Tryz.prog (oExt x194 2) w367 fun x197 w368 =>
 pN Tryz.prog (oBin .neq 38 (.tmp 198) (.const (.int .i64 2)) x197 (.int .i64 2)) w368 fun x199 w369 =>
 pIf x199
 (Q (.bool false) w369)
 (pN Tryz.prog (oBin .add 3 (.tmp 177) (.const (.int .i64 1)) i21l24 (.int .i64 1)) w369 fun x178 w370 =>
 (L24 x178 w370 ∧ m24 x178 w370 < m24 i21l24 w354)))
 (Q (.bool true) w356))))))) ∧ (pN Tryz.prog (oBs 30 1 [(0, (bv 0))]) w348 fun x166 w371 =>
 (True) ∧ (pN Tryz.prog (oBi .append #[30, 30] 30 [false, false] [x163, x32]) w371 fun x165 w372 =>
 (True) ∧ (pN Tryz.prog (oBi .append #[30, 30] 30 [false, false] [x165, x166]) w372 fun x167 w373 =>
 (True) ∧ (pN Tryz.prog (oBi .append #[30, 30] 30 [false, false] [x168, x170]) w373 fun x171 w374 =>
 (True) ∧ (pN Tryz.prog (oBs 92 3 [(0, x162), (1, x167), (2, x171)]) w374 fun x172 w375 =>
 (True) ∧ (∃ (L24 : Value → World → Prop) (m24 : Value → World → Nat),
 L24 (.int .i64 0) w375 ∧
 ∀ (_k24 : Env) (i21l24 : Value) (w376 : World), L24 i21l24 w376 →
 pN Tryz.prog (oBi .len #[92] 3 [false] [x172]) w376 fun x175 w377 =>
 pN Tryz.prog (oBin .lss 3 (.tmp 173) (.tmp 175) i21l24 x175) w377 fun x176 w378 =>
 pIf x176
 (pN Tryz.prog (oLoad 23 x3) w378 fun x180 w379 =>
 pN Tryz.prog (oCall 41 [x180, x30]) w379 fun x182 w380 =>
 pN Tryz.prog (oExt x182 0) w380 fun x183 w381 =>
 pN Tryz.prog (oExt x182 1) w381 fun _ w382 =>
 pN Tryz.prog (oBs 30 0 []) w382 fun x187 w383 =>
 pN Tryz.prog (oIdx 92 x172 i21l24) w383 fun x190 w384 =>
 pN Tryz.prog (oLoad 30 x190) w384 fun x191 w385 =>
 pN Tryz.prog (oBi .append #[30, 30] 30 [false, false] [x187, x191]) w385 fun x192 w386 =>
 pN Tryz.prog (oCall 39 [x183, x192, x34]) w386 fun x194 w387 =>
 pN Tryz.prog (oExt x194 0) w387 fun _ w388 =>
 pN Tryz.prog (oExt x194 1) w388 fun _ w389 =>
 pN Tryz.prog (oExt x194 2) w389 fun x197 w390 =>
 pN Tryz.prog (oBin .neq 38 (.tmp 198) (.const (.int .i64 2)) x197 (.int .i64 2)) w390 fun x199 w391 =>
 pIf x199
 (Q (.bool false) w391)
 (pN Tryz.prog (oBin .add 3 (.tmp 177) (.const (.int .i64 1)) i21l24 (.int .i64 1)) w391 fun x178 w392 =>
 (L24 x178 w392 ∧ m24 x178 w392 < m24 i21l24 w376)))
 (Q (.bool true) w378))))))))) ∧ (pN Tryz.prog (oBs 30 1 [(0, (bv 0))]) w347 fun x166 w393 =>
 (True) ∧ (pN Tryz.prog (oBs 30 0 []) w393 fun x163 w394 =>
 (True) ∧ (pN Tryz.prog (oBi .append #[30, 30] 30 [false, false] [x163, x32]) w394 fun x165 w395 =>
 (True) ∧ (pN Tryz.prog (oBi .append #[30, 30] 30 [false, false] [x165, x166]) w395 fun x167 w396 =>
 (True) ∧ (pN Tryz.prog (oBi .append #[30, 30] 30 [false, false] [x168, x170]) w396 fun x171 w397 =>
 (True) ∧ (pN Tryz.prog (oBs 92 3 [(0, x162), (1, x167), (2, x171)]) w397 fun x172 w398 =>
 (True) ∧ (∃ (L24 : Value → World → Prop) (m24 : Value → World → Nat),
 L24 (.int .i64 0) w398 ∧
 ∀ (_k24 : Env) (i21l24 : Value) (w399 : World), L24 i21l24 w399 →
 pN Tryz.prog (oBi .len #[92] 3 [false] [x172]) w399 fun x175 w400 =>
 pN Tryz.prog (oBin .lss 3 (.tmp 173) (.tmp 175) i21l24 x175) w400 fun x176 w401 =>
 pIf x176
 (pN Tryz.prog (oLoad 23 x3) w401 fun x180 w402 =>
 pN Tryz.prog (oCall 41 [x180, x30]) w402 fun x182 w403 =>
 pN Tryz.prog (oExt x182 0) w403 fun x183 w404 =>
 pN Tryz.prog (oExt x182 1) w404 fun _ w405 =>
 pN Tryz.prog (oBs 30 0 []) w405 fun x187 w406 =>
 pN Tryz.prog (oIdx 92 x172 i21l24) w406 fun x190 w407 =>
 pN Tryz.prog (oLoad 30 x190) w407 fun x191 w408 =>
 pN Tryz.prog (oBi .append #[30, 30] 30 [false, false] [x187, x191]) w408 fun x192 w409 =>
 pN Tryz.prog (oCall 39 [x183, x192, x34]) w409 fun x194 w410 =>
 pN Tryz.prog (oExt x194 0) w410 fun _ w411 =>
 pN Tryz.prog (oExt x194 1) w411 fun _ w412 =>
 pN Tryz.prog (oExt x194 2) w412 fun x197 w413 =>
 pN Tryz.prog (oBin .neq 38 (.tmp 198) (.const (.int .i64 2)) x197 (.int .i64 2)) w413 fun x199 w414 =>
 pIf x199
 (Q (.bool false) w414)
 (pN Tryz.prog (oBin .add 3 (.tmp 177) (.const (.int .i64 1)) i21l24 (.int .i64 1)) w414 fun x178 w415 =>
 (L24 x178 w415 ∧ m24 x178 w415 < m24 i21l24 w399)))
 (Q (.bool true) w401)))))))))))))))))
noncomputable def pithlaw15_DecOne.c : Code := match Tryz.f6.body with | some c => c | none => .skip
theorem pithlaw15_DecOne.eq [Pan] (x0 : Value) (w : World) (Q : Value → World → Prop) : cw Tryz.prog pithlaw15_DecOne.H pithlaw15_DecOne.c (endQ Tryz.prog Tryz.f6.results.toList Q) (argsE [x0]) w = pithlaw15_DecOne.F x0 w Q := by kernel_rfl
theorem pithlaw15_DecOne.calls [Pan] {x0 : Value} {w : World} {Q : Value → World → Prop} (h : pithlaw15_DecOne.F x0 w Q) : Calls Tryz.prog 6 #[x0] w (retP Q) :=
  calls_of_cw (H := pithlaw15_DecOne.H) (c := pithlaw15_DecOne.c) (args := [x0]) mixed Tryz.func6 (by kernel_rfl) (by kernel_rfl) (Nat.le_of_ble_eq_true (by kernel_rfl)) ((pithlaw15_DecOne.eq x0 w Q).mpr h)

def pithlaw15_fixed.H : Hints := { cut := fun  | _ => none, loop := fun  | _ => ([], 0), order := fun  | _ => [] }
def pithlaw15_fixed.F [Pan]  (w : World) (Q : Value → World → Prop) : Prop :=
 pN Tryz.prog (oBuild 23 [(0, (.int .i64 3)), (2, (.int .i64 2))]) w fun x7 w1 =>
 pN Tryz.prog (oCall 41 [x7, (.int .i64 4096)]) w1 fun x8 w2 =>
 pN Tryz.prog (oExt x8 0) w2 fun x9 w3 =>
 pN Tryz.prog (oExt x8 1) w3 fun x10 w4 =>
 pN Tryz.prog (oBin .neq 38 (.tmp 11) (.const (.int .i64 0)) x10 (.int .i64 0)) w4 fun x12 w5 =>
 pGd (gB x12 false) (pN Tryz.prog (oMv x9) w5) w5 fun x14 w6 =>
 pGd (gB x12 false) (pN Tryz.prog (oBin .eql 85 (.tmp 14) (.const (.pointer none)) x14 (.pointer none)) w6) w6 fun x15 w7 =>
 pN Tryz.prog (oPick x12 (.bool true) x15) w7 fun x16 w8 =>
 pIf x16
 (Q (.bool false) w8)
 (pN Tryz.prog (oMk 30 (.int .i64 6) (.int .i64 6)) w8 fun x19 w9 =>
 pN Tryz.prog (oCall 39 [x9, x19, (.int .i64 1)]) w9 fun x20 w10 =>
 pN Tryz.prog (oExt x20 0) w10 fun x21 w11 =>
 pN Tryz.prog (oExt x20 1) w11 fun x22 w12 =>
 pN Tryz.prog (oExt x20 2) w12 fun x23 w13 =>
 pN Tryz.prog (oBin .eql 38 (.tmp 24) (.const (.int .i64 0)) x23 (.int .i64 0)) w13 fun x25 w14 =>
 pGd (gB x25 true) (pN Tryz.prog (oMv x21) w14) w14 fun x27 w15 =>
 pGd (gB x25 true) (pN Tryz.prog (oBi .len #[80] 3 [false] [x27]) w15) w15 fun x28 w16 =>
 pGd (gB x25 true) (pN Tryz.prog (oBin .eql 3 (.tmp 28) (.const (.int .i64 1)) x28 (.int .i64 1)) w16) w16 fun x29 w17 =>
 pN Tryz.prog (oPick x25 x29 (.bool false)) w17 fun x30 w18 =>
 pGd (gB x30 true) (pN Tryz.prog (oMv x21) w18) w18 fun x32 w19 =>
 pGd (gB x30 true) (pN Tryz.prog (oIdx 80 x32 (.int .i64 0)) w19) w19 fun x33 w20 =>
 pGd (gB x30 true) (pN Tryz.prog (oLoad 48 x33) w20) w20 fun x34 w21 =>
 pGd (gB x30 true) (pN Tryz.prog (oBuild 48 [(0, (.int .i64 1))]) w21) w21 fun x35 w22 =>
 pGd (gB x30 true) (pN Tryz.prog (oBin .eql 48 (.tmp 34) (.tmp 35) x34 x35) w22) w22 fun x36 w23 =>
 pN Tryz.prog (oPick x30 x36 (.bool false)) w23 fun x37 w24 =>
 pGd (gB x37 true) (pN Tryz.prog (oMv x22) w24) w24 fun x39 w25 =>
 pGd (gB x37 true) (pN Tryz.prog (oConv 30 9 x39) w25) w25 fun x40 w26 =>
 pGd (gB x37 true) (pN Tryz.prog (oBin .eql 9 (.tmp 40) (.const (.string ⟨#[0]⟩)) x40 (.string ⟨#[0]⟩)) w26) w26 fun x41 w27 =>
 pN Tryz.prog (oPick x37 x41 (.bool false)) w27 fun x42 w28 =>
 Q x42 w28)
noncomputable def pithlaw15_fixed.c : Code := match Tryz.f10.body with | some c => c | none => .skip
theorem pithlaw15_fixed.eq [Pan]  (w : World) (Q : Value → World → Prop) : cw Tryz.prog pithlaw15_fixed.H pithlaw15_fixed.c (endQ Tryz.prog Tryz.f10.results.toList Q) (argsE []) w = pithlaw15_fixed.F  w Q := by kernel_rfl
theorem pithlaw15_fixed.calls [Pan]  {w : World} {Q : Value → World → Prop} (h : pithlaw15_fixed.F  w Q) : Calls Tryz.prog 10 #[] w (retP Q) :=
  calls_of_cw (H := pithlaw15_fixed.H) (c := pithlaw15_fixed.c) (args := []) mixed Tryz.func10 (by kernel_rfl) (by kernel_rfl) (Nat.le_of_ble_eq_true (by kernel_rfl)) ((pithlaw15_fixed.eq  w Q).mpr h)

def pithlaw15_both.H : Hints := { cut := fun  | _ => none, loop := fun  | _ => ([], 0), order := fun  | _ => [] }
def pithlaw15_both.F [Pan] (x0 : Value) (x1 : Value) (w : World) (Q : Value → World → Prop) : Prop :=
 pN Tryz.prog (oBox 23 x0) w fun x2 w1 =>
 pN Tryz.prog (oLoad 23 x2) w1 fun x12 w2 =>
 pN Tryz.prog (oCall 13 [x12, x1]) w2 fun x14 w3 =>
 pN Tryz.prog (oExt x14 0) w3 fun x15 w4 =>
 pN Tryz.prog (oExt x14 1) w4 fun x16 w5 =>
 pN Tryz.prog (oLoad 23 x2) w5 fun x18 w6 =>
 pN Tryz.prog (oCall 41 [x18, x1]) w6 fun x20 w7 =>
 pN Tryz.prog (oExt x20 0) w7 fun x21 w8 =>
 pN Tryz.prog (oExt x20 1) w8 fun x22 w9 =>
 pN Tryz.prog (oBin .eql 38 (.tmp 25) (.tmp 26) x16 x22) w9 fun x27 w10 =>
 pGd (gB x27 true) (pN Tryz.prog (oMv x15) w10) w10 fun x29 w11 =>
 pGd (gB x27 true) (pN Tryz.prog (oBin .eql 37 (.tmp 29) (.const (.pointer none)) x29 (.pointer none)) w11) w11 fun x30 w12 =>
 pGd (gB x27 true) (pN Tryz.prog (oMv x16) w12) w12 fun x31 w13 =>
 pGd (gB x27 true) (pN Tryz.prog (oBin .neq 38 (.tmp 31) (.const (.int .i64 0)) x31 (.int .i64 0)) w13) w13 fun x32 w14 =>
 pGd (gB x27 true) (pN Tryz.prog (oBin .eql 4 (.tmp 30) (.tmp 32) x30 x32) w14) w14 fun x33 w15 =>
 pN Tryz.prog (oPick x27 x33 (.bool false)) w15 fun x34 w16 =>
 pGd (gB x34 true) (pN Tryz.prog (oMv x21) w16) w16 fun x36 w17 =>
 pGd (gB x34 true) (pN Tryz.prog (oBin .eql 85 (.tmp 36) (.const (.pointer none)) x36 (.pointer none)) w17) w17 fun x37 w18 =>
 pGd (gB x34 true) (pN Tryz.prog (oMv x22) w18) w18 fun x38 w19 =>
 pGd (gB x34 true) (pN Tryz.prog (oBin .neq 38 (.tmp 38) (.const (.int .i64 0)) x38 (.int .i64 0)) w19) w19 fun x39 w20 =>
 pGd (gB x34 true) (pN Tryz.prog (oBin .eql 4 (.tmp 37) (.tmp 39) x37 x39) w20) w20 fun x40 w21 =>
 pN Tryz.prog (oPick x34 x40 (.bool false)) w21 fun x41 w22 =>
 Q (.tuple #[x15, x21, x41]) w22
noncomputable def pithlaw15_both.c : Code := match Tryz.f37.body with | some c => c | none => .skip
theorem pithlaw15_both.eq [Pan] (x0 : Value) (x1 : Value) (w : World) (Q : Value → World → Prop) : cw Tryz.prog pithlaw15_both.H pithlaw15_both.c (endQ Tryz.prog Tryz.f37.results.toList Q) (argsE [x0, x1]) w = pithlaw15_both.F x0 x1 w Q := by kernel_rfl
theorem pithlaw15_both.calls [Pan] {x0 : Value} {x1 : Value} {w : World} {Q : Value → World → Prop} (h : pithlaw15_both.F x0 x1 w Q) : Calls Tryz.prog 37 #[x0, x1] w (retP Q) :=
  calls_of_cw (H := pithlaw15_both.H) (c := pithlaw15_both.c) (args := [x0, x1]) mixed Tryz.func37 (by kernel_rfl) (by kernel_rfl) (Nat.le_of_ble_eq_true (by kernel_rfl)) ((pithlaw15_both.eq x0 x1 w Q).mpr h)

def pithlaw15_odd.H : Hints := { cut := fun  | _ => none, loop := fun | 3 => ([1, 2], 33538054) | _ => ([], 0), order := fun  | _ => [] }
def pithlaw15_odd.F [Pan]  (w : World) (Q : Value → World → Prop) : Prop :=
 ∃ (L3 : Value → Value → World → Prop) (m3 : Value → Value → World → Nat),
 L3 (.slice none 0 0) (.int .i64 0) w ∧
 ∀ (_k3 : Env) (raw1l3 : Value) (i2l3 : Value) (w1 : World), L3 raw1l3 i2l3 w1 →
 pN Tryz.prog (oBin .lss 3 (.tmp 14) (.const (.int .i64 66000)) i2l3 (.int .i64 66000)) w1 fun x15 w2 =>
 pIf x15
 (pN Tryz.prog (oBin .mul 3 (.tmp 19) (.const (.int .i64 7)) i2l3 (.int .i64 7)) w2 fun x20 w3 =>
 pN Tryz.prog (oBin .shr 3 (.tmp 20) (.const (.int .u64 3)) x20 (.int .u64 3)) w3 fun x21 w4 =>
 pN Tryz.prog (oConv 3 5 x21) w4 fun x22 w5 =>
 pN Tryz.prog (oBs 30 1 [(0, x22)]) w5 fun x23 w6 =>
 pN Tryz.prog (oBi .append #[30, 30] 30 [false, false] [raw1l3, x23]) w6 fun x24 w7 =>
 pN Tryz.prog (oBin .add 3 (.tmp 16) (.const (.int .i64 1)) i2l3 (.int .i64 1)) w7 fun x17 w8 =>
 (L3 x24 x17 w8 ∧ m3 x24 x17 w8 < m3 raw1l3 i2l3 w1))
 (pN Tryz.prog (oBin .add 9 (.tmp 25) (.const (.string ⟨#[82, 89, 74, 192, 0]⟩)) (.string ⟨#[0, 153, 174, 167, 149, 183, 197, 29, 153, 136, 151, 70, 105, 79, 253, 11, 20, 99, 205, 158, 224, 190, 112, 92, 33, 177, 155, 191, 214, 184]⟩) (.string ⟨#[82, 89, 74, 192, 0]⟩)) w2 fun x26 w9 =>
 pN Tryz.prog (oBin .add 9 (.tmp 27) (.const (.string ⟨#[81, 89, 74, 192, 0]⟩)) (.string ⟨#[0, 153, 174, 167, 149, 183, 197, 29, 153, 136, 151, 70, 105, 79, 253, 11, 20, 99, 205, 158, 224, 190, 112, 92, 33, 177, 155, 191, 214, 184]⟩) (.string ⟨#[81, 89, 74, 192, 0]⟩)) w9 fun x28 w10 =>
 pN Tryz.prog (oBuild 23 []) w10 fun x30 w11 =>
 pN Tryz.prog (oCall 41 [x30, (.int .i64 131072)]) w11 fun x31 w12 =>
 pN Tryz.prog (oExt x31 0) w12 fun x32 w13 =>
 pN Tryz.prog (oExt x31 1) w13 fun x33 w14 =>
 pN Tryz.prog (oBin .neq 38 (.tmp 34) (.const (.int .i64 0)) x33 (.int .i64 0)) w14 fun x35 w15 =>
 pGd (gB x35 false) (pN Tryz.prog (oMv x32) w15) w15 fun x37 w16 =>
 pGd (gB x35 false) (pN Tryz.prog (oBin .eql 85 (.tmp 37) (.const (.pointer none)) x37 (.pointer none)) w16) w16 fun x38 w17 =>
 pN Tryz.prog (oPick x35 (.bool true) x38) w17 fun x39 w18 =>
 pIf x39
 (Q (.bool false) w18)
 (pN Tryz.prog (oCall 51 [x32, raw1l3]) w18 fun _ w19 =>
 pN Tryz.prog (oConv 9 30 x26) w19 fun x46 w20 =>
 pN Tryz.prog (oCall 39 [x32, x46, (.int .i64 335)]) w20 fun x47 w21 =>
 pN Tryz.prog (oExt x47 0) w21 fun _ w22 =>
 pN Tryz.prog (oExt x47 1) w22 fun _ w23 =>
 pN Tryz.prog (oExt x47 2) w23 fun x50 w24 =>
 pN Tryz.prog (oCall 53 [x32]) w24 fun _ w25 =>
 pN Tryz.prog (oCall 51 [x32, raw1l3]) w25 fun _ w26 =>
 pN Tryz.prog (oConv 9 30 x28) w26 fun x59 w27 =>
 pN Tryz.prog (oCall 39 [x32, x59, (.int .i64 335)]) w27 fun x60 w28 =>
 pN Tryz.prog (oExt x60 0) w28 fun x61 w29 =>
 pN Tryz.prog (oExt x60 1) w29 fun x62 w30 =>
 pN Tryz.prog (oExt x60 2) w30 fun x63 w31 =>
 pN Tryz.prog (oBin .eql 38 (.tmp 64) (.const (.int .i64 2)) x50 (.int .i64 2)) w31 fun x65 w32 =>
 pGd (gB x65 true) (pN Tryz.prog (oMv x63) w32) w32 fun x67 w33 =>
 pGd (gB x65 true) (pN Tryz.prog (oBin .eql 38 (.tmp 67) (.const (.int .i64 0)) x67 (.int .i64 0)) w33) w33 fun x68 w34 =>
 pN Tryz.prog (oPick x65 x68 (.bool false)) w34 fun x69 w35 =>
 pGd (gB x69 true) (pN Tryz.prog (oMv x61) w35) w35 fun x71 w36 =>
 pGd (gB x69 true) (pN Tryz.prog (oBi .len #[80] 3 [false] [x71]) w36) w36 fun x72 w37 =>
 pGd (gB x69 true) (pN Tryz.prog (oBin .eql 3 (.tmp 72) (.const (.int .i64 14)) x72 (.int .i64 14)) w37) w37 fun x73 w38 =>
 pN Tryz.prog (oPick x69 x73 (.bool false)) w38 fun x74 w39 =>
 pGd (gB x74 true) (pN Tryz.prog (oMv x62) w39) w39 fun x76 w40 =>
 pGd (gB x74 true) (pN Tryz.prog (oBi .len #[30] 3 [false] [x76]) w40) w40 fun x77 w41 =>
 pGd (gB x74 true) (pN Tryz.prog (oBin .eql 3 (.tmp 77) (.const (.int .i64 335)) x77 (.int .i64 335)) w41) w41 fun x78 w42 =>
 pN Tryz.prog (oPick x74 x78 (.bool false)) w42 fun x79 w43 =>
 pGd (gB x79 true) (pN Tryz.prog (oMv x61) w43) w43 fun x81 w44 =>
 pGd (gB x79 true) (pN Tryz.prog (oIdx 80 x81 (.int .i64 0)) w44) w44 fun x82 w45 =>
 pGd (gB x79 true) (pN Tryz.prog (oLoad 48 x82) w45) w45 fun x83 w46 =>
 pGd (gB x79 true) (pN Tryz.prog (oBuild 48 [(0, (.int .i64 2)), (2, (.int .i64 8)), (3, (.int .i64 11950))]) w46) w46 fun x84 w47 =>
 pGd (gB x79 true) (pN Tryz.prog (oBin .eql 48 (.tmp 83) (.tmp 84) x83 x84) w47) w47 fun x85 w48 =>
 pN Tryz.prog (oPick x79 x85 (.bool false)) w48 fun x86 w49 =>
 Q x86 w49))
noncomputable def pithlaw15_odd.c : Code := match Tryz.f38.body with | some c => c | none => .skip
theorem pithlaw15_odd.eq [Pan]  (w : World) (Q : Value → World → Prop) : cw Tryz.prog pithlaw15_odd.H pithlaw15_odd.c (endQ Tryz.prog Tryz.f38.results.toList Q) (argsE []) w = pithlaw15_odd.F  w Q := by kernel_rfl
theorem pithlaw15_odd.calls [Pan]  {w : World} {Q : Value → World → Prop} (h : pithlaw15_odd.F  w Q) : Calls Tryz.prog 38 #[] w (retP Q) :=
  calls_of_cw (H := pithlaw15_odd.H) (c := pithlaw15_odd.c) (args := []) mixed Tryz.func38 (by kernel_rfl) (by kernel_rfl) (Nat.le_of_ble_eq_true (by kernel_rfl)) ((pithlaw15_odd.eq  w Q).mpr h)

end Go.Proofs.YtbgnnjfpiblkmaaGreatDoor

namespace Go.Proofs.YtbgnnjfpiblkmaaGreatDoor
open Go
set_option linter.unusedSimpArgs false
set_option linter.unnecessarySimpa false
set_option linter.unusedSectionVars false
set_option linter.unusedVariables false
set_option maxRecDepth 100000

def lzdec_Decoder_Take.H : Hints := { cut := fun  | _ => none, loop := fun  | _ => ([], 0), order := fun  | _ => [] }
def lzdec_Decoder_Take.F [Pan] (x0 : Value) (x1 : Value) (x2 : Value) (w : World) (Q : Value → World → Prop) : Prop :=
 pN Tryz.prog (oBin .lss 3 (.tmp 12) (.const (.int .i64 1)) x2 (.int .i64 1)) w fun x13 w1 =>
 pGd (gB x13 false) (pN Tryz.prog (oMv x2) w1) w1 fun x15 w2 =>
 pGd (gB x13 false) (pN Tryz.prog (oBin .gtr 3 (.tmp 15) (.const (.int .i64 2097152)) x15 (.int .i64 2097152)) w2) w2 fun x16 w3 =>
 pN Tryz.prog (oPick x13 (.bool true) x16) w3 fun x17 w4 =>
 pIf x17
 (Q (.tuple #[(.slice none 0 0), (.slice none 0 0), (.int .i64 7)]) w4)
 (pN Tryz.prog (oNil x0) w4 fun x19 w5 =>
 pN Tryz.prog (oFld 171 x19 2) w5 fun x20 w6 =>
 pN Tryz.prog (oLoad 4 x20) w6 fun x21 w7 =>
 pIf x21
 (Q (.tuple #[(.slice none 0 0), (.slice none 0 0), (.int .i64 2)]) w7)
 (pN Tryz.prog (oCall 91 [x0, x1, x2]) w7 fun x26 w8 =>
 pN Tryz.prog (oExt x26 0) w8 fun x27 w9 =>
 pN Tryz.prog (oExt x26 1) w9 fun x28 w10 =>
 pN Tryz.prog (oExt x26 2) w10 fun x29 w11 =>
 pN Tryz.prog (oUn .not x29) w11 fun x31 w12 =>
 pIf x31
 (pN Tryz.prog (oNil x0) w12 fun x33 w13 =>
 pN Tryz.prog (oFld 171 x33 2) w13 fun x34 w14 =>
 pN Tryz.prog (oStore 4 x34 (.bool true)) w14 fun _ w15 =>
 Q (.tuple #[(.slice none 0 0), (.slice none 0 0), (.int .i64 2)]) w15)
 (Q (.tuple #[x27, x28, (.int .i64 0)]) w12)))
noncomputable def lzdec_Decoder_Take.c : Code := match Tryz.f39.body with | some c => c | none => .skip
theorem lzdec_Decoder_Take.eq [Pan] (x0 : Value) (x1 : Value) (x2 : Value) (w : World) (Q : Value → World → Prop) : cw Tryz.prog lzdec_Decoder_Take.H lzdec_Decoder_Take.c (endQ Tryz.prog Tryz.f39.results.toList Q) (argsE [x0, x1, x2]) w = lzdec_Decoder_Take.F x0 x1 x2 w Q := by kernel_rfl
theorem lzdec_Decoder_Take.calls [Pan] {x0 : Value} {x1 : Value} {x2 : Value} {w : World} {Q : Value → World → Prop} (h : lzdec_Decoder_Take.F x0 x1 x2 w Q) : Calls Tryz.prog 39 #[x0, x1, x2] w (retP Q) :=
  calls_of_cw (H := lzdec_Decoder_Take.H) (c := lzdec_Decoder_Take.c) (args := [x0, x1, x2]) mixed Tryz.func39 (by kernel_rfl) (by kernel_rfl) (Nat.le_of_ble_eq_true (by kernel_rfl)) ((lzdec_Decoder_Take.eq x0 x1 x2 w Q).mpr h)

def lzdec_New.H : Hints := { cut := fun  | _ => none, loop := fun  | _ => ([], 0), order := fun  | _ => [] }
def lzdec_New.F [Pan] (x0 : Value) (x1 : Value) (w : World) (Q : Value → World → Prop) : Prop :=
 pN Tryz.prog (oBox 23 x0) w fun x2 w1 =>
 pN Tryz.prog (oLoad 23 x2) w1 fun x11 w2 =>
 pN Tryz.prog (oCall 45 [x11]) w2 fun x12 w3 =>
 pN Tryz.prog (oExt x12 0) w3 fun _ w4 =>
 pN Tryz.prog (oExt x12 1) w4 fun x14 w5 =>
 pN Tryz.prog (oBin .neq 38 (.tmp 15) (.const (.int .i64 0)) x14 (.int .i64 0)) w5 fun x16 w6 =>
 pIf x16
 (Q (.tuple #[(.pointer none), x14]) w6)
 (pN Tryz.prog (oCall 42 [x1]) w6 fun x20 w7 =>
 pN Tryz.prog (oExt x20 0) w7 fun x21 w8 =>
 pN Tryz.prog (oExt x20 1) w8 fun x22 w9 =>
 pN Tryz.prog (oBin .neq 38 (.tmp 23) (.const (.int .i64 0)) x22 (.int .i64 0)) w9 fun x24 w10 =>
 pIf x24
 (Q (.tuple #[(.pointer none), x22]) w10)
 (pN Tryz.prog (oLoad 23 x2) w10 fun x26 w11 =>
 pN Tryz.prog (oCall 61 [x26]) w11 fun x27 w12 =>
 pN Tryz.prog (oBuild 171 [(0, x27), (1, x21)]) w12 fun x29 w13 =>
 pN Tryz.prog (oBox 171 x29) w13 fun x30 w14 =>
 Q (.tuple #[x30, (.int .i64 0)]) w14))
noncomputable def lzdec_New.c : Code := match Tryz.f41.body with | some c => c | none => .skip
theorem lzdec_New.eq [Pan] (x0 : Value) (x1 : Value) (w : World) (Q : Value → World → Prop) : cw Tryz.prog lzdec_New.H lzdec_New.c (endQ Tryz.prog Tryz.f41.results.toList Q) (argsE [x0, x1]) w = lzdec_New.F x0 x1 w Q := by kernel_rfl
theorem lzdec_New.calls [Pan] {x0 : Value} {x1 : Value} {w : World} {Q : Value → World → Prop} (h : lzdec_New.F x0 x1 w Q) : Calls Tryz.prog 41 #[x0, x1] w (retP Q) :=
  calls_of_cw (H := lzdec_New.H) (c := lzdec_New.c) (args := [x0, x1]) mixed Tryz.func41 (by kernel_rfl) (by kernel_rfl) (Nat.le_of_ble_eq_true (by kernel_rfl)) ((lzdec_New.eq x0 x1 w Q).mpr h)

def lzdec_Decoder_Raw.H : Hints := { cut := fun  | _ => none, loop := fun  | _ => ([], 0), order := fun  | _ => [] }
def lzdec_Decoder_Raw.F [Pan] (x0 : Value) (x1 : Value) (w : World) (Q : Value → World → Prop) : Prop :=
 pN Tryz.prog (oNil x0) w fun x5 w1 =>
 pN Tryz.prog (oFld 171 x5 1) w1 fun x6 w2 =>
 pN Tryz.prog (oLoad 97 x6) w2 fun x7 w3 =>
 pN Tryz.prog (oCall 46 [x7, x1]) w3 fun _ w4 =>
 Q (.tuple #[]) w4
noncomputable def lzdec_Decoder_Raw.c : Code := match Tryz.f51.body with | some c => c | none => .skip
theorem lzdec_Decoder_Raw.eq [Pan] (x0 : Value) (x1 : Value) (w : World) (Q : Value → World → Prop) : cw Tryz.prog lzdec_Decoder_Raw.H lzdec_Decoder_Raw.c (endQ Tryz.prog Tryz.f51.results.toList Q) (argsE [x0, x1]) w = lzdec_Decoder_Raw.F x0 x1 w Q := by kernel_rfl
theorem lzdec_Decoder_Raw.calls [Pan] {x0 : Value} {x1 : Value} {w : World} {Q : Value → World → Prop} (h : lzdec_Decoder_Raw.F x0 x1 w Q) : Calls Tryz.prog 51 #[x0, x1] w (retP Q) :=
  calls_of_cw (H := lzdec_Decoder_Raw.H) (c := lzdec_Decoder_Raw.c) (args := [x0, x1]) mixed Tryz.func51 (by kernel_rfl) (by kernel_rfl) (Nat.le_of_ble_eq_true (by kernel_rfl)) ((lzdec_Decoder_Raw.eq x0 x1 w Q).mpr h)

def lzdec_Decoder_Clear.H : Hints := { cut := fun  | _ => none, loop := fun  | _ => ([], 0), order := fun  | _ => [] }
def lzdec_Decoder_Clear.F [Pan] (x0 : Value) (w : World) (Q : Value → World → Prop) : Prop :=
 pN Tryz.prog (oNil x0) w fun x4 w1 =>
 pN Tryz.prog (oFld 171 x4 0) w1 fun x5 w2 =>
 pN Tryz.prog (oLoad 123 x5) w2 fun x6 w3 =>
 pN Tryz.prog (oNil x6) w3 fun x7 w4 =>
 pN Tryz.prog (oFld 141 x7 0) w4 fun x8 w5 =>
 pN Tryz.prog (oLoad 23 x8) w5 fun x9 w6 =>
 pN Tryz.prog (oCall 61 [x9]) w6 fun x10 w7 =>
 pN Tryz.prog (oNil x0) w7 fun x11 w8 =>
 pN Tryz.prog (oFld 171 x11 0) w8 fun x12 w9 =>
 pN Tryz.prog (oStore 123 x12 x10) w9 fun _ w10 =>
 pN Tryz.prog (oNil x0) w10 fun x14 w11 =>
 pN Tryz.prog (oFld 171 x14 1) w11 fun x15 w12 =>
 pN Tryz.prog (oLoad 97 x15) w12 fun x16 w13 =>
 pN Tryz.prog (oCall 47 [x16]) w13 fun _ w14 =>
 pN Tryz.prog (oNil x0) w14 fun x19 w15 =>
 pN Tryz.prog (oFld 171 x19 2) w15 fun x20 w16 =>
 pN Tryz.prog (oStore 4 x20 (.bool false)) w16 fun _ w17 =>
 Q (.tuple #[]) w17
noncomputable def lzdec_Decoder_Clear.c : Code := match Tryz.f53.body with | some c => c | none => .skip
theorem lzdec_Decoder_Clear.eq [Pan] (x0 : Value) (w : World) (Q : Value → World → Prop) : cw Tryz.prog lzdec_Decoder_Clear.H lzdec_Decoder_Clear.c (endQ Tryz.prog Tryz.f53.results.toList Q) (argsE [x0]) w = lzdec_Decoder_Clear.F x0 w Q := by kernel_rfl
theorem lzdec_Decoder_Clear.calls [Pan] {x0 : Value} {w : World} {Q : Value → World → Prop} (h : lzdec_Decoder_Clear.F x0 w Q) : Calls Tryz.prog 53 #[x0] w (retP Q) :=
  calls_of_cw (H := lzdec_Decoder_Clear.H) (c := lzdec_Decoder_Clear.c) (args := [x0]) mixed Tryz.func53 (by kernel_rfl) (by kernel_rfl) (Nat.le_of_ble_eq_true (by kernel_rfl)) ((lzdec_Decoder_Clear.eq x0 w Q).mpr h)

def lzdec_Decoder_all.H : Hints := { cut := fun  | _ => none, loop := fun | 6 => ([10, 11], 302231454903657291644352) | _ => ([], 0), order := fun | 13 => [(0, 0), (1, 1), (2, 3), (3, 7), (4, 15), (5, 31), (6, 63), (7, 127)] | _ => [] }
def lzdec_Decoder_all.F [Pan] (x0 : Value) (x1 : Value) (x2 : Value) (w : World) (Q : Value → World → Prop) : Prop :=
 pN Tryz.prog (oCall 133 [x0, x1]) w fun x18 w1 =>
 pN Tryz.prog (oBin .eql 230 (.tmp 19) (.const (.pointer none)) x18 (.pointer none)) w1 fun x20 w2 =>
 pIf x20
 (Q (.tuple #[(.slice none 0 0), (.slice none 0 0), (.bool false)]) w2)
 (∃ (L6 : Value → Value → World → Prop) (m6 : Value → Value → World → Nat),
 L6 (.slice none 0 0) (.slice none 0 0) w2 ∧
 ∀ (_k6 : Env) (l10l6 : Value) (out11l6 : Value) (w3 : World), L6 l10l6 out11l6 w3 →
 pN Tryz.prog (oBi .len #[30] 3 [false] [out11l6]) w3 fun x22 w4 =>
 pN Tryz.prog (oBin .lss 3 (.tmp 22) (.tmp 23) x22 x2) w4 fun x24 w5 =>
 pIf x24
 (pN Tryz.prog (oCall 134 [x18]) w5 fun x26 w6 =>
 pN Tryz.prog (oAlloc 48) w6 fun x12 w7 =>
 pN Tryz.prog (oStore 48 x12 x26) w7 fun _ w8 =>
 pN Tryz.prog (oNil x18) w8 fun x28 w9 =>
 pN Tryz.prog (oFld 233 x28 2) w9 fun x29 w10 =>
 pN Tryz.prog (oLoad 4 x29) w10 fun x30 w11 =>
 pGd (gB x30 false) (pN Tryz.prog (oLoad 48 x12) w11) w11 fun x32 w12 =>
 pGd (gB x30 false) (pN Tryz.prog (oCall 94 [x32]) w12) w12 fun x33 w13 =>
 pGd (gB x30 false) (pN Tryz.prog (oBin .lss 3 (.tmp 33) (.const (.int .i64 1)) x33 (.int .i64 1)) w13) w13 fun x34 w14 =>
 pN Tryz.prog (oPick x30 (.bool true) x34) w14 fun x35 w15 =>
 pGd (gB x35 false) (pN Tryz.prog (oLoad 48 x12) w15) w15 fun x37 w16 =>
 pGd (gB x35 false) (pN Tryz.prog (oCall 94 [x37]) w16) w16 fun x38 w17 =>
 pGd (gB x35 false) (pN Tryz.prog (oMv x2) w17) w17 fun x39 w18 =>
 pGd (gB x35 false) (pN Tryz.prog (oMv out11l6) w18) w18 fun x40 w19 =>
 pGd (gB x35 false) (pN Tryz.prog (oBi .len #[30] 3 [false] [x40]) w19) w19 fun x41 w20 =>
 pGd (gB x35 false) (pN Tryz.prog (oBin .sub 3 (.tmp 39) (.tmp 41) x39 x41) w20) w20 fun x42 w21 =>
 pGd (gB x35 false) (pN Tryz.prog (oBin .gtr 3 (.tmp 38) (.tmp 42) x38 x42) w21) w21 fun x43 w22 =>
 pN Tryz.prog (oPick x35 (.bool true) x43) w22 fun x44 w23 =>
 pIf x44
 (Q (.tuple #[(.slice none 0 0), (.slice none 0 0), (.bool false)]) w23)
 (pDr w23 fun w24 =>
 pA Tryz.prog (oNil x0) fun x47 =>
 pA Tryz.prog (oFld 171 x47 1) fun x48 =>
 pL Tryz.prog (oLoad 97 x48) w24 fun x49 =>
 pA Tryz.prog (oNil x0) fun x51 =>
 pA Tryz.prog (oFld 171 x51 0) fun x52 =>
 pL Tryz.prog (oLoad 123 x52) w24 fun x53 =>
 pA Tryz.prog (oNil x53) fun x54 =>
 pA Tryz.prog (oFld 141 x54 1) fun x55 =>
 pL Tryz.prog (oLoad 100 x55) w24 fun x56 =>
 pL Tryz.prog (oLoad 48 x12) w24 fun x57 =>
 (pN Tryz.prog (oCall 48 [x49, x56, x57]) w24 fun x58 w25 =>
 (True) ∧ (pA Tryz.prog (oExt x58 0) fun x59 =>
 pA Tryz.prog (oExt x58 1) fun x60 =>
 pA Tryz.prog (oExt x58 2) fun x61 =>
 pN Tryz.prog (oAlloc 100) w25 fun x14 w26 =>
 (True) ∧ (pN Tryz.prog (oStore 100 x14 x60) w26 fun _ w27 =>
 (True) ∧ (pN Tryz.prog (oBin .neq 38 (.tmp 62) (.const (.int .i64 0)) x61 (.int .i64 0)) w27 fun x63 w28 =>
 pIf x63
 (Q (.tuple #[(.slice none 0 0), (.slice none 0 0), (.bool false)]) w28)
 (pDr w28 fun w29 =>
 pA Tryz.prog (oNil x0) fun x65 =>
 pA Tryz.prog (oFld 171 x65 0) fun x66 =>
 pL Tryz.prog (oLoad 123 x66) w29 fun x67 =>
 pL Tryz.prog (oLoad 100 x14) w29 fun x68 =>
 pA Tryz.prog (oNil x67) fun x69 =>
 pA Tryz.prog (oFld 141 x69 1) fun x70 =>
 pN Tryz.prog (oStore 100 x70 x68) w29 fun _ w30 =>
 (True) ∧ (pN Tryz.prog (oLoad 48 x12) w30 fun x72 w31 =>
 pN Tryz.prog (oBs 80 1 [(0, x72)]) w31 fun x73 w32 =>
 pN Tryz.prog (oBi .append #[80, 80] 80 [false, false] [l10l6, x73]) w32 fun x74 w33 =>
 pN Tryz.prog (oBi .append #[30, 30] 30 [false, false] [out11l6, x59]) w33 fun x77 w34 =>
 (L6 x74 x77 w34 ∧ m6 x74 x77 w34 < m6 l10l6 out11l6 w3))))))) ∧ (pN Tryz.prog (oAlloc 100) w24 fun x14 w35 =>
 ((Sem.run Tryz.prog (oLoad 48 x12) w35 = .ok (.value x57) w35) ∧ (Sem.run Tryz.prog (oLoad 100 x55) w35 = .ok (.value x56) w35) ∧ (Sem.run Tryz.prog (oLoad 123 x52) w35 = .ok (.value x53) w35) ∧ (Sem.run Tryz.prog (oLoad 97 x48) w35 = .ok (.value x49) w35) ∧ True) ∧ (pN Tryz.prog (oCall 48 [x49, x56, x57]) w35 fun x58 w36 =>
 (True) ∧ (pA Tryz.prog (oExt x58 0) fun x59 =>
 pA Tryz.prog (oExt x58 1) fun x60 =>
 pA Tryz.prog (oExt x58 2) fun x61 =>
 pN Tryz.prog (oStore 100 x14 x60) w36 fun _ w37 =>
 (True) ∧ (pN Tryz.prog (oBin .neq 38 (.tmp 62) (.const (.int .i64 0)) x61 (.int .i64 0)) w37 fun x63 w38 =>
 pIf x63
 (Q (.tuple #[(.slice none 0 0), (.slice none 0 0), (.bool false)]) w38)
 (pDr w38 fun w39 =>
 pA Tryz.prog (oNil x0) fun x65 =>
 pA Tryz.prog (oFld 171 x65 0) fun x66 =>
 pL Tryz.prog (oLoad 123 x66) w39 fun x67 =>
 pL Tryz.prog (oLoad 100 x14) w39 fun x68 =>
 pA Tryz.prog (oNil x67) fun x69 =>
 pA Tryz.prog (oFld 141 x69 1) fun x70 =>
 pN Tryz.prog (oStore 100 x70 x68) w39 fun _ w40 =>
 (True) ∧ (pN Tryz.prog (oLoad 48 x12) w40 fun x72 w41 =>
 pN Tryz.prog (oBs 80 1 [(0, x72)]) w41 fun x73 w42 =>
 pN Tryz.prog (oBi .append #[80, 80] 80 [false, false] [l10l6, x73]) w42 fun x74 w43 =>
 pN Tryz.prog (oBi .append #[30, 30] 30 [false, false] [out11l6, x59]) w43 fun x77 w44 =>
 (L6 x74 x77 w44 ∧ m6 x74 x77 w44 < m6 l10l6 out11l6 w3)))))))))
 (pN Tryz.prog (oNil x18) w5 fun x81 w45 =>
 pN Tryz.prog (oFld 233 x81 1) w45 fun x82 w46 =>
 pN Tryz.prog (oLoad 76 x82) w46 fun x83 w47 =>
 pN Tryz.prog (oCall 90 [x83]) w47 fun x84 w48 =>
 Q (.tuple #[l10l6, out11l6, x84]) w48))
noncomputable def lzdec_Decoder_all.c : Code := match Tryz.f91.body with | some c => c | none => .skip
theorem lzdec_Decoder_all.eq [Pan] (x0 : Value) (x1 : Value) (x2 : Value) (w : World) (Q : Value → World → Prop) : cw Tryz.prog lzdec_Decoder_all.H lzdec_Decoder_all.c (endQ Tryz.prog Tryz.f91.results.toList Q) (argsE [x0, x1, x2]) w = lzdec_Decoder_all.F x0 x1 x2 w Q := by kernel_rfl
theorem lzdec_Decoder_all.calls [Pan] {x0 : Value} {x1 : Value} {x2 : Value} {w : World} {Q : Value → World → Prop} (h : lzdec_Decoder_all.F x0 x1 x2 w Q) : Calls Tryz.prog 91 #[x0, x1, x2] w (retP Q) :=
  calls_of_cw (H := lzdec_Decoder_all.H) (c := lzdec_Decoder_all.c) (args := [x0, x1, x2]) mixed Tryz.func91 (by kernel_rfl) (by kernel_rfl) (Nat.le_of_ble_eq_true (by kernel_rfl)) ((lzdec_Decoder_all.eq x0 x1 x2 w Q).mpr h)

def lzdec_newReader.H : Hints := { cut := fun  | _ => none, loop := fun  | _ => ([], 0), order := fun  | _ => [] }
def lzdec_newReader.F [Pan] (x0 : Value) (x1 : Value) (w : World) (Q : Value → World → Prop) : Prop :=
 pN Tryz.prog (oCall 87 [x1]) w fun x9 w1 =>
 pN Tryz.prog (oExt x9 0) w1 fun x10 w2 =>
 pN Tryz.prog (oExt x9 1) w2 fun x11 w3 =>
 pN Tryz.prog (oBin .neq 38 (.tmp 12) (.const (.int .i64 0)) x11 (.int .i64 0)) w3 fun x13 w4 =>
 pIf x13
 (Q (.pointer none) w4)
 (pN Tryz.prog (oBuild 233 [(0, x0), (1, x10)]) w4 fun x16 w5 =>
 pN Tryz.prog (oBox 233 x16) w5 fun x17 w6 =>
 Q x17 w6)
noncomputable def lzdec_newReader.c : Code := match Tryz.f133.body with | some c => c | none => .skip
theorem lzdec_newReader.eq [Pan] (x0 : Value) (x1 : Value) (w : World) (Q : Value → World → Prop) : cw Tryz.prog lzdec_newReader.H lzdec_newReader.c (endQ Tryz.prog Tryz.f133.results.toList Q) (argsE [x0, x1]) w = lzdec_newReader.F x0 x1 w Q := by kernel_rfl
theorem lzdec_newReader.calls [Pan] {x0 : Value} {x1 : Value} {w : World} {Q : Value → World → Prop} (h : lzdec_newReader.F x0 x1 w Q) : Calls Tryz.prog 133 #[x0, x1] w (retP Q) :=
  calls_of_cw (H := lzdec_newReader.H) (c := lzdec_newReader.c) (args := [x0, x1]) mixed Tryz.func133 (by kernel_rfl) (by kernel_rfl) (Nat.le_of_ble_eq_true (by kernel_rfl)) ((lzdec_newReader.eq x0 x1 w Q).mpr h)

def lzdec_reader_symbol.H : Hints := { cut := fun | 14 => some ([6], 91343851992899065466791838581393081296727572544) | _ => none, loop := fun  | _ => ([], 0), order := fun | 1 => [(0, 0), (1, 1), (2, 3), (3, 7), (4, 15), (5, 31), (6, 63), (7, 127), (8, 255), (9, 511), (10, 1023), (11, 2047), (12, 4095), (13, 8191), (14, 16383), (15, 32767), (16, 65535), (17, 131071), (18, 262143), (19, 524287), (20, 1048575), (21, 2097151), (22, 4194303), (23, 8388607), (24, 16777215), (25, 33554431), (26, 67108863), (27, 134217727), (28, 268435455)] | _ => [] }
def lzdec_reader_symbol.F [Pan] (x0 : Value) (w : World) (Q : Value → World → Prop) : Prop :=
 pN Tryz.prog (oAlloc 48) w fun x2 w1 =>
 pDr w1 fun w2 =>
 pA Tryz.prog (oNil x0) fun x8 =>
 pA Tryz.prog (oFld 233 x8 0) fun x9 =>
 pL Tryz.prog (oLoad 85 x9) w2 fun x10 =>
 pA Tryz.prog (oNil x10) fun x11 =>
 pA Tryz.prog (oFld 171 x11 0) fun x12 =>
 pL Tryz.prog (oLoad 123 x12) w2 fun x13 =>
 pA Tryz.prog (oNil x13) fun x14 =>
 pA Tryz.prog (oFld 141 x14 1) fun x15 =>
 pA Tryz.prog (oFld 100 x15 0) fun x16 =>
 pL Tryz.prog (oLoad 3 x16) w2 fun x17 =>
 pA Tryz.prog (oNil x0) fun x19 =>
 pA Tryz.prog (oFld 233 x19 0) fun x20 =>
 pL Tryz.prog (oLoad 85 x20) w2 fun x21 =>
 pA Tryz.prog (oNil x21) fun x22 =>
 pA Tryz.prog (oFld 171 x22 0) fun x23 =>
 pL Tryz.prog (oLoad 123 x23) w2 fun x24 =>
 pA Tryz.prog (oNil x0) fun x26 =>
 pA Tryz.prog (oFld 233 x26 0) fun x27 =>
 pL Tryz.prog (oLoad 85 x27) w2 fun x28 =>
 pA Tryz.prog (oNil x28) fun x29 =>
 pA Tryz.prog (oFld 171 x29 1) fun x30 =>
 pL Tryz.prog (oLoad 97 x30) w2 fun x31 =>
 pN Tryz.prog (oCall 103 [x31]) w2 fun x32 w3 =>
 ((Sem.run Tryz.prog (oLoad 123 x23) w3 = .ok (.value x24) w3) ∧ (Sem.run Tryz.prog (oLoad 85 x20) w3 = .ok (.value x21) w3) ∧ (Sem.run Tryz.prog (oLoad 3 x16) w3 = .ok (.value x17) w3) ∧ (Sem.run Tryz.prog (oLoad 123 x12) w3 = .ok (.value x13) w3) ∧ (Sem.run Tryz.prog (oLoad 85 x9) w3 = .ok (.value x10) w3) ∧ True) ∧ (pN Tryz.prog (oCall 102 [x24, x32]) w3 fun x33 w4 =>
 ((Sem.run Tryz.prog (oLoad 3 x16) w4 = .ok (.value x17) w4) ∧ (Sem.run Tryz.prog (oLoad 123 x12) w4 = .ok (.value x13) w4) ∧ (Sem.run Tryz.prog (oLoad 85 x9) w4 = .ok (.value x10) w4) ∧ True) ∧ (pN Tryz.prog (oNil x0) w4 fun x37 w5 =>
 pN Tryz.prog (oFld 233 x37 0) w5 fun x38 w6 =>
 pN Tryz.prog (oLoad 85 x38) w6 fun x39 w7 =>
 pN Tryz.prog (oNil x39) w7 fun x40 w8 =>
 pN Tryz.prog (oFld 171 x40 0) w8 fun x41 w9 =>
 pN Tryz.prog (oLoad 123 x41) w9 fun x42 w10 =>
 pN Tryz.prog (oNil x42) w10 fun x43 w11 =>
 pN Tryz.prog (oFld 141 x43 2) w11 fun x44 w12 =>
 pN Tryz.prog (oLoad 137 x44) w12 fun x45 w13 =>
 pN Tryz.prog (oCall 167 [x0, x45, x33]) w13 fun x47 w14 =>
 pN Tryz.prog (oBin .eql 3 (.tmp 47) (.const (.int .i64 0)) x47 (.int .i64 0)) w14 fun x48 w15 =>
 pIf x48
 (pN Tryz.prog (oCall 168 [x0]) w15 fun x50 w16 =>
 pN Tryz.prog (oConv 3 5 x50) w16 fun x51 w17 =>
 pN Tryz.prog (oBuild 48 [(0, (.int .i64 1)), (1, x51)]) w17 fun x52 w18 =>
 pN Tryz.prog (oStore 48 x2 x52) w18 fun _ w19 =>
 pL Tryz.prog (oRes 48 x2) w19 fun r2 =>
 Q r2 w19)
 (pN Tryz.prog (oNil x0) w15 fun x56 w20 =>
 pN Tryz.prog (oFld 233 x56 0) w20 fun x57 w21 =>
 pN Tryz.prog (oLoad 85 x57) w21 fun x58 w22 =>
 pN Tryz.prog (oNil x58) w22 fun x59 w23 =>
 pN Tryz.prog (oFld 171 x59 0) w23 fun x60 w24 =>
 pN Tryz.prog (oLoad 123 x60) w24 fun x61 w25 =>
 pN Tryz.prog (oNil x61) w25 fun x62 w26 =>
 pN Tryz.prog (oFld 141 x62 4) w26 fun x63 w27 =>
 pN Tryz.prog (oLoad 137 x63) w27 fun x64 w28 =>
 pN Tryz.prog (oCall 167 [x0, x64, x17]) w28 fun x66 w29 =>
 pN Tryz.prog (oBin .eql 3 (.tmp 66) (.const (.int .i64 0)) x66 (.int .i64 0)) w29 fun x67 w30 =>
 pIf x67
 (pN Tryz.prog (oNil x0) w30 fun x70 w31 =>
 pN Tryz.prog (oFld 233 x70 0) w31 fun x71 w32 =>
 pN Tryz.prog (oLoad 85 x71) w32 fun x72 w33 =>
 pN Tryz.prog (oNil x72) w33 fun x73 w34 =>
 pN Tryz.prog (oFld 171 x73 0) w34 fun x74 w35 =>
 pN Tryz.prog (oLoad 123 x74) w35 fun x75 w36 =>
 pN Tryz.prog (oNil x75) w36 fun x76 w37 =>
 pN Tryz.prog (oFld 141 x76 9) w37 fun x77 w38 =>
 pN Tryz.prog (oLoad 139 x77) w38 fun x78 w39 =>
 pN Tryz.prog (oCall 169 [x0, x78]) w39 fun x79 w40 =>
 pN Tryz.prog (oCall 170 [x0, x79]) w40 fun x83 w41 =>
 pN Tryz.prog (oBuild 48 [(0, (.int .i64 2)), (2, x79), (3, x83)]) w41 fun x84 w42 =>
 pN Tryz.prog (oStore 48 x2 x84) w42 fun _ w43 =>
 pL Tryz.prog (oRes 48 x2) w43 fun r2 =>
 Q r2 w43)
 (pN Tryz.prog (oNil x0) w30 fun x88 w44 =>
 pN Tryz.prog (oFld 233 x88 0) w44 fun x89 w45 =>
 pN Tryz.prog (oLoad 85 x89) w45 fun x90 w46 =>
 pN Tryz.prog (oNil x90) w46 fun x91 w47 =>
 pN Tryz.prog (oFld 171 x91 0) w47 fun x92 w48 =>
 pN Tryz.prog (oLoad 123 x92) w48 fun x93 w49 =>
 pN Tryz.prog (oNil x93) w49 fun x94 w50 =>
 pN Tryz.prog (oFld 141 x94 5) w50 fun x95 w51 =>
 pN Tryz.prog (oLoad 137 x95) w51 fun x96 w52 =>
 pN Tryz.prog (oCall 167 [x0, x96, x17]) w52 fun x98 w53 =>
 pN Tryz.prog (oBin .eql 3 (.tmp 98) (.const (.int .i64 0)) x98 (.int .i64 0)) w53 fun x99 w54 =>
 pIf x99
 (pN Tryz.prog (oNil x0) w54 fun x102 w55 =>
 pN Tryz.prog (oFld 233 x102 0) w55 fun x103 w56 =>
 pN Tryz.prog (oLoad 85 x103) w56 fun x104 w57 =>
 pN Tryz.prog (oNil x104) w57 fun x105 w58 =>
 pN Tryz.prog (oFld 171 x105 0) w58 fun x106 w59 =>
 pN Tryz.prog (oLoad 123 x106) w59 fun x107 w60 =>
 pN Tryz.prog (oNil x107) w60 fun x108 w61 =>
 pN Tryz.prog (oFld 141 x108 3) w61 fun x109 w62 =>
 pN Tryz.prog (oLoad 137 x109) w62 fun x110 w63 =>
 pN Tryz.prog (oCall 167 [x0, x110, x33]) w63 fun x112 w64 =>
 pN Tryz.prog (oBin .eql 3 (.tmp 112) (.const (.int .i64 0)) x112 (.int .i64 0)) w64 fun x113 w65 =>
 pIf x113
 (pN Tryz.prog (oBuild 48 [(0, (.int .i64 4))]) w65 fun x114 w66 =>
 pN Tryz.prog (oStore 48 x2 x114) w66 fun _ w67 =>
 pL Tryz.prog (oRes 48 x2) w67 fun r2 =>
 Q r2 w67)
 (pN Tryz.prog (oNil x0) w65 fun x117 w68 =>
 pN Tryz.prog (oFld 233 x117 0) w68 fun x118 w69 =>
 pN Tryz.prog (oLoad 85 x118) w69 fun x119 w70 =>
 pN Tryz.prog (oNil x119) w70 fun x120 w71 =>
 pN Tryz.prog (oFld 171 x120 0) w71 fun x121 w72 =>
 pN Tryz.prog (oLoad 123 x121) w72 fun x122 w73 =>
 pN Tryz.prog (oNil x122) w73 fun x123 w74 =>
 pN Tryz.prog (oFld 141 x123 10) w74 fun x124 w75 =>
 pN Tryz.prog (oLoad 139 x124) w75 fun x125 w76 =>
 pN Tryz.prog (oCall 169 [x0, x125]) w76 fun x126 w77 =>
 pN Tryz.prog (oBuild 48 [(0, (.int .i64 3)), (2, x126)]) w77 fun x127 w78 =>
 pN Tryz.prog (oStore 48 x2 x127) w78 fun _ w79 =>
 pL Tryz.prog (oRes 48 x2) w79 fun r2 =>
 Q r2 w79))
 (∃ I14 : Value → World → Prop,
 (pN Tryz.prog (oNil x0) w54 fun x130 w80 =>
 pN Tryz.prog (oFld 233 x130 0) w80 fun x131 w81 =>
 pN Tryz.prog (oLoad 85 x131) w81 fun x132 w82 =>
 pN Tryz.prog (oNil x132) w82 fun x133 w83 =>
 pN Tryz.prog (oFld 171 x133 0) w83 fun x134 w84 =>
 pN Tryz.prog (oLoad 123 x134) w84 fun x135 w85 =>
 pN Tryz.prog (oNil x135) w85 fun x136 w86 =>
 pN Tryz.prog (oFld 141 x136 6) w86 fun x137 w87 =>
 pN Tryz.prog (oLoad 137 x137) w87 fun x138 w88 =>
 pN Tryz.prog (oCall 167 [x0, x138, x17]) w88 fun x140 w89 =>
 pN Tryz.prog (oBin .eql 3 (.tmp 140) (.const (.int .i64 1)) x140 (.int .i64 1)) w89 fun x141 w90 =>
 pIf x141
 (pN Tryz.prog (oNil x0) w90 fun x144 w91 =>
 pN Tryz.prog (oFld 233 x144 0) w91 fun x145 w92 =>
 pN Tryz.prog (oLoad 85 x145) w92 fun x146 w93 =>
 pN Tryz.prog (oNil x146) w93 fun x147 w94 =>
 pN Tryz.prog (oFld 171 x147 0) w94 fun x148 w95 =>
 pN Tryz.prog (oLoad 123 x148) w95 fun x149 w96 =>
 pN Tryz.prog (oNil x149) w96 fun x150 w97 =>
 pN Tryz.prog (oFld 141 x150 7) w97 fun x151 w98 =>
 pN Tryz.prog (oLoad 137 x151) w98 fun x152 w99 =>
 pN Tryz.prog (oCall 167 [x0, x152, x17]) w99 fun x154 w100 =>
 pN Tryz.prog (oBin .add 3 (.const (.int .i64 2)) (.tmp 154) (.int .i64 2) x154) w100 fun x155 w101 =>
 I14 x155 w101)
 (I14 (.int .i64 1) w90)) ∧
 ∀ (_j14 : Env) (i6c14 : Value) (w102 : World), I14 i6c14 w102 →
 pN Tryz.prog (oNil x0) w102 fun x158 w103 =>
 pN Tryz.prog (oFld 233 x158 0) w103 fun x159 w104 =>
 pN Tryz.prog (oLoad 85 x159) w104 fun x160 w105 =>
 pN Tryz.prog (oNil x160) w105 fun x161 w106 =>
 pN Tryz.prog (oFld 171 x161 0) w106 fun x162 w107 =>
 pN Tryz.prog (oLoad 123 x162) w107 fun x163 w108 =>
 pN Tryz.prog (oNil x163) w108 fun x164 w109 =>
 pN Tryz.prog (oFld 141 x164 10) w109 fun x165 w110 =>
 pN Tryz.prog (oLoad 139 x165) w110 fun x166 w111 =>
 pN Tryz.prog (oCall 169 [x0, x166]) w111 fun x167 w112 =>
 pN Tryz.prog (oBuild 48 [(0, (.int .i64 3)), (2, x167), (3, i6c14)]) w112 fun x169 w113 =>
 pN Tryz.prog (oStore 48 x2 x169) w113 fun _ w114 =>
 pL Tryz.prog (oRes 48 x2) w114 fun r2 =>
 Q r2 w114)))))
noncomputable def lzdec_reader_symbol.c : Code := match Tryz.f134.body with | some c => c | none => .skip
theorem lzdec_reader_symbol.eq [Pan] (x0 : Value) (w : World) (Q : Value → World → Prop) : cw Tryz.prog lzdec_reader_symbol.H lzdec_reader_symbol.c (endQ Tryz.prog Tryz.f134.results.toList Q) (argsE [x0]) w = lzdec_reader_symbol.F x0 w Q := by kernel_rfl
theorem lzdec_reader_symbol.calls [Pan] {x0 : Value} {w : World} {Q : Value → World → Prop} (h : lzdec_reader_symbol.F x0 w Q) : Calls Tryz.prog 134 #[x0] w (retP Q) :=
  calls_of_cw (H := lzdec_reader_symbol.H) (c := lzdec_reader_symbol.c) (args := [x0]) mixed Tryz.func134 (by kernel_rfl) (by kernel_rfl) (Nat.le_of_ble_eq_true (by kernel_rfl)) ((lzdec_reader_symbol.eq x0 w Q).mpr h)

def lzdec_reader_bit.H : Hints := { cut := fun  | _ => none, loop := fun  | _ => ([], 0), order := fun  | _ => [] }
def lzdec_reader_bit.F [Pan] (x0 : Value) (x1 : Value) (x2 : Value) (w : World) (Q : Value → World → Prop) : Prop :=
 pN Tryz.prog (oNil x0) w fun x8 w1 =>
 pN Tryz.prog (oFld 233 x8 2) w1 fun x9 w2 =>
 pN Tryz.prog (oLoad 4 x9) w2 fun x10 w3 =>
 pIf x10
 (Q (.int .i64 0) w3)
 (pN Tryz.prog (oNil x0) w3 fun x13 w4 =>
 pN Tryz.prog (oFld 233 x13 1) w4 fun x14 w5 =>
 pN Tryz.prog (oLoad 76 x14) w5 fun x15 w6 =>
 pN Tryz.prog (oCall 163 [x15, x1, x2]) w6 fun x18 w7 =>
 pN Tryz.prog (oExt x18 0) w7 fun x19 w8 =>
 pN Tryz.prog (oExt x18 1) w8 fun x20 w9 =>
 pN Tryz.prog (oCall 187 [x0, x19, x20]) w9 fun x21 w10 =>
 Q x21 w10)
noncomputable def lzdec_reader_bit.c : Code := match Tryz.f167.body with | some c => c | none => .skip
theorem lzdec_reader_bit.eq [Pan] (x0 : Value) (x1 : Value) (x2 : Value) (w : World) (Q : Value → World → Prop) : cw Tryz.prog lzdec_reader_bit.H lzdec_reader_bit.c (endQ Tryz.prog Tryz.f167.results.toList Q) (argsE [x0, x1, x2]) w = lzdec_reader_bit.F x0 x1 x2 w Q := by kernel_rfl
theorem lzdec_reader_bit.calls [Pan] {x0 : Value} {x1 : Value} {x2 : Value} {w : World} {Q : Value → World → Prop} (h : lzdec_reader_bit.F x0 x1 x2 w Q) : Calls Tryz.prog 167 #[x0, x1, x2] w (retP Q) :=
  calls_of_cw (H := lzdec_reader_bit.H) (c := lzdec_reader_bit.c) (args := [x0, x1, x2]) mixed Tryz.func167 (by kernel_rfl) (by kernel_rfl) (Nat.le_of_ble_eq_true (by kernel_rfl)) ((lzdec_reader_bit.eq x0 x1 x2 w Q).mpr h)

def lzdec_reader_literal.H : Hints := { cut := fun | 9 => some ([8, 9], 1361129467673850333539215387527879867136) | 13 => some ([11], 159723975628756904588584603879424) | _ => none, loop := fun | 8 => ([8, 9, 10], 1361129467683134883833855739589623299840) | _ => ([], 0), order := fun | 2 => [(0, 0), (1, 1), (2, 3), (3, 7), (4, 15), (5, 31), (6, 63), (7, 127), (8, 255), (9, 511), (10, 1023), (11, 2047), (12, 4095), (13, 8191), (15, 16383), (14, 49151), (16, 65535), (17, 131071)] | 5 => [(0, 0), (1, 1), (2, 3), (3, 7), (4, 15), (5, 31), (6, 63), (7, 127), (8, 255), (9, 511), (10, 1023), (11, 2047), (12, 4095), (13, 8191), (14, 16383), (15, 32767), (16, 65535), (17, 131071), (18, 262143), (19, 524287), (20, 1048575), (21, 2097151), (22, 4194303), (23, 8388607), (24, 16777215)] | 10 => [(0, 0), (1, 1), (2, 3), (3, 7), (4, 15), (5, 31), (6, 63), (7, 127), (8, 255), (9, 511)] | _ => [] }
def lzdec_reader_literal.F [Pan] (x0 : Value) (w : World) (Q : Value → World → Prop) : Prop :=
 pN Tryz.prog (oNil x0) w fun x16 w1 =>
 pN Tryz.prog (oFld 233 x16 0) w1 fun x17 w2 =>
 pN Tryz.prog (oLoad 85 x17) w2 fun x18 w3 =>
 pN Tryz.prog (oNil x18) w3 fun x19 w4 =>
 pN Tryz.prog (oFld 171 x19 1) w4 fun x20 w5 =>
 pN Tryz.prog (oLoad 97 x20) w5 fun x21 w6 =>
 pN Tryz.prog (oCall 101 [x21, (.int .i64 1)]) w6 fun x22 w7 =>
 pN Tryz.prog (oExt x22 0) w7 fun x23 w8 =>
 pN Tryz.prog (oExt x22 1) w8 fun _ w9 =>
 pDr w9 fun w10 =>
 pA Tryz.prog (oNil x0) fun x26 =>
 pA Tryz.prog (oFld 233 x26 0) fun x27 =>
 pL Tryz.prog (oLoad 85 x27) w10 fun x28 =>
 pA Tryz.prog (oNil x28) fun x29 =>
 pA Tryz.prog (oFld 171 x29 0) fun x30 =>
 pL Tryz.prog (oLoad 123 x30) w10 fun x31 =>
 pA Tryz.prog (oNil x0) fun x33 =>
 pA Tryz.prog (oFld 233 x33 0) fun x34 =>
 pL Tryz.prog (oLoad 85 x34) w10 fun x35 =>
 pA Tryz.prog (oNil x35) fun x36 =>
 pA Tryz.prog (oFld 171 x36 1) fun x37 =>
 pL Tryz.prog (oLoad 97 x37) w10 fun x38 =>
 pN Tryz.prog (oCall 103 [x38]) w10 fun x39 w11 =>
 ((Sem.run Tryz.prog (oLoad 123 x30) w11 = .ok (.value x31) w11) ∧ (Sem.run Tryz.prog (oLoad 85 x27) w11 = .ok (.value x28) w11) ∧ True) ∧ (pN Tryz.prog (oCall 143 [x31, x39, x23]) w11 fun x41 w12 =>
 (True) ∧ (pN Tryz.prog (oNil x0) w12 fun x43 w13 =>
 pN Tryz.prog (oFld 233 x43 0) w13 fun x44 w14 =>
 pN Tryz.prog (oLoad 85 x44) w14 fun x45 w15 =>
 pN Tryz.prog (oNil x45) w15 fun x46 w16 =>
 pN Tryz.prog (oFld 171 x46 0) w16 fun x47 w17 =>
 pN Tryz.prog (oLoad 123 x47) w17 fun x48 w18 =>
 pN Tryz.prog (oNil x48) w18 fun x49 w19 =>
 pN Tryz.prog (oFld 141 x49 1) w19 fun x50 w20 =>
 pN Tryz.prog (oLoad 100 x50) w20 fun x51 w21 =>
 pN Tryz.prog (oCall 144 [x51]) w21 fun x52 w22 =>
 pIf x52
 (pN Tryz.prog (oNil x0) w22 fun x55 w23 =>
 pN Tryz.prog (oFld 233 x55 0) w23 fun x56 w24 =>
 pN Tryz.prog (oLoad 85 x56) w24 fun x57 w25 =>
 pN Tryz.prog (oNil x57) w25 fun x58 w26 =>
 pN Tryz.prog (oFld 171 x58 0) w26 fun x59 w27 =>
 pN Tryz.prog (oLoad 123 x59) w27 fun x60 w28 =>
 pN Tryz.prog (oNil x60) w28 fun x61 w29 =>
 pN Tryz.prog (oFld 141 x61 8) w29 fun x62 w30 =>
 pN Tryz.prog (oLoad 137 x62) w30 fun x63 w31 =>
 pN Tryz.prog (oCall 188 [x0, x63, x41, (.int .i64 8)]) w31 fun x65 w32 =>
 Q x65 w32)
 (pDr w22 fun w33 =>
 pA Tryz.prog (oNil x0) fun x68 =>
 pA Tryz.prog (oFld 233 x68 0) fun x69 =>
 pL Tryz.prog (oLoad 85 x69) w33 fun x70 =>
 pA Tryz.prog (oNil x70) fun x71 =>
 pA Tryz.prog (oFld 171 x71 1) fun x72 =>
 pL Tryz.prog (oLoad 97 x72) w33 fun x73 =>
 pA Tryz.prog (oNil x0) fun x75 =>
 pA Tryz.prog (oFld 233 x75 0) fun x76 =>
 pL Tryz.prog (oLoad 85 x76) w33 fun x77 =>
 pA Tryz.prog (oNil x77) fun x78 =>
 pA Tryz.prog (oFld 171 x78 0) fun x79 =>
 pL Tryz.prog (oLoad 123 x79) w33 fun x80 =>
 pA Tryz.prog (oNil x80) fun x81 =>
 pA Tryz.prog (oFld 141 x81 1) fun x82 =>
 pA Tryz.prog (oFld 100 x82 1) fun x83 =>
 pA Tryz.prog (oIdx 67 x83 (.int .i64 0)) fun x84 =>
 pL Tryz.prog (oLoad 3 x84) w33 fun x85 =>
 pN Tryz.prog (oCall 101 [x73, x85]) w33 fun x86 w34 =>
 (True) ∧ (pA Tryz.prog (oExt x86 0) fun x87 =>
 pA Tryz.prog (oExt x86 1) fun _ =>
 ∃ (L8 : Value → Value → Value → World → Prop) (m8 : Value → Value → Value → World → Nat),
 L8 (.int .i64 1) (.bool true) (.int .i64 7) w34 ∧
 ∀ (_k8 : Env) (m8l8 : Value) (same9l8 : Value) (i10l8 : Value) (w35 : World), L8 m8l8 same9l8 i10l8 w35 →
 pN Tryz.prog (oBin .geq 3 (.tmp 89) (.const (.int .i64 0)) i10l8 (.int .i64 0)) w35 fun x90 w36 =>
 pIf x90
 (∃ I9 : Value → Value → World → Prop,
 (pDr w36 fun w37 =>
 pA Tryz.prog (oBin .add 3 (.tmp 93) (.tmp 94) x41 m8l8) fun x95 =>
 pL Tryz.prog (oConv 5 3 x87) w37 fun x97 =>
 pA Tryz.prog (oBin .shr 3 (.tmp 97) (.tmp 98) x97 i10l8) fun x99 =>
 pA Tryz.prog (oBin .and 3 (.tmp 99) (.const (.int .i64 1)) x99 (.int .i64 1)) fun x100 =>
 ∃ I13 : Value → World → Prop,
 (pIf same9l8
 (pN Tryz.prog (oBin .add 3 (.const (.int .i64 1)) (.tmp 103) (.int .i64 1) x100) w37 fun x104 w38 =>
 pN Tryz.prog (oBin .mul 3 (.const (.int .i64 256)) (.tmp 104) (.int .i64 256) x104) w38 fun x105 w39 =>
 pN Tryz.prog (oBin .add 3 (.tmp 102) (.tmp 105) x95 x105) w39 fun x106 w40 =>
 I13 x106 w40)
 (I13 x95 w37)) ∧
 ∀ (_j13 : Env) (at11c13 : Value) (w41 : World), I13 at11c13 w41 →
 pN Tryz.prog (oNil x0) w41 fun x109 w42 =>
 pN Tryz.prog (oFld 233 x109 0) w42 fun x110 w43 =>
 pN Tryz.prog (oLoad 85 x110) w43 fun x111 w44 =>
 pN Tryz.prog (oNil x111) w44 fun x112 w45 =>
 pN Tryz.prog (oFld 171 x112 0) w45 fun x113 w46 =>
 pN Tryz.prog (oLoad 123 x113) w46 fun x114 w47 =>
 pN Tryz.prog (oNil x114) w47 fun x115 w48 =>
 pN Tryz.prog (oFld 141 x115 8) w48 fun x116 w49 =>
 pN Tryz.prog (oLoad 137 x116) w49 fun x117 w50 =>
 pN Tryz.prog (oCall 167 [x0, x117, at11c13]) w50 fun x119 w51 =>
 pGd (gB same9l8 true) (pN Tryz.prog (oMv x119) w51) w51 fun x122 w52 =>
 pGd (gB same9l8 true) (pN Tryz.prog (oMv x100) w52) w52 fun x123 w53 =>
 pGd (gB same9l8 true) (pN Tryz.prog (oBin .eql 3 (.tmp 122) (.tmp 123) x122 x123) w53) w53 fun x124 w54 =>
 pN Tryz.prog (oPick same9l8 x124 (.bool false)) w54 fun x125 w55 =>
 pN Tryz.prog (oBin .mul 3 (.const (.int .i64 2)) (.tmp 126) (.int .i64 2) m8l8) w55 fun x127 w56 =>
 pN Tryz.prog (oBin .add 3 (.tmp 127) (.tmp 128) x127 x119) w56 fun x129 w57 =>
 I9 x129 x125 w57) ∧
 ∀ (_j9 : Env) (m8c9 : Value) (same9c9 : Value) (w58 : World), I9 m8c9 same9c9 w58 →
 pN Tryz.prog (oBin .sub 3 (.tmp 91) (.const (.int .i64 1)) i10l8 (.int .i64 1)) w58 fun x92 w59 =>
 (L8 m8c9 same9c9 x92 w59 ∧ m8 m8c9 same9c9 x92 w59 < m8 m8l8 same9l8 i10l8 w35))
 (pN Tryz.prog (oBin .sub 3 (.tmp 130) (.const (.int .i64 256)) m8l8 (.int .i64 256)) w36 fun x131 w60 =>
 Q x131 w60)))))
noncomputable def lzdec_reader_literal.c : Code := match Tryz.f168.body with | some c => c | none => .skip
theorem lzdec_reader_literal.eq [Pan] (x0 : Value) (w : World) (Q : Value → World → Prop) : cw Tryz.prog lzdec_reader_literal.H lzdec_reader_literal.c (endQ Tryz.prog Tryz.f168.results.toList Q) (argsE [x0]) w = lzdec_reader_literal.F x0 w Q := by kernel_rfl
theorem lzdec_reader_literal.calls [Pan] {x0 : Value} {w : World} {Q : Value → World → Prop} (h : lzdec_reader_literal.F x0 w Q) : Calls Tryz.prog 168 #[x0] w (retP Q) :=
  calls_of_cw (H := lzdec_reader_literal.H) (c := lzdec_reader_literal.c) (args := [x0]) mixed Tryz.func168 (by kernel_rfl) (by kernel_rfl) (Nat.le_of_ble_eq_true (by kernel_rfl)) ((lzdec_reader_literal.eq x0 w Q).mpr h)

def lzdec_reader_length.H : Hints := { cut := fun  | _ => none, loop := fun  | _ => ([], 0), order := fun | 1 => [(0, 0), (1, 1), (2, 3), (3, 7), (4, 15), (5, 31), (6, 63), (7, 127), (8, 255), (9, 511), (10, 1023), (11, 2047), (12, 4095), (13, 8191), (14, 16383), (15, 32767), (16, 65535), (17, 131071)] | _ => [] }
def lzdec_reader_length.F [Pan] (x0 : Value) (x1 : Value) (w : World) (Q : Value → World → Prop) : Prop :=
 pN Tryz.prog (oBox 139 x1) w fun x3 w1 =>
 pDr w1 fun w2 =>
 pA Tryz.prog (oNil x0) fun x7 =>
 pA Tryz.prog (oFld 233 x7 0) fun x8 =>
 pL Tryz.prog (oLoad 85 x8) w2 fun x9 =>
 pA Tryz.prog (oNil x9) fun x10 =>
 pA Tryz.prog (oFld 171 x10 0) fun x11 =>
 pL Tryz.prog (oLoad 123 x11) w2 fun x12 =>
 pA Tryz.prog (oNil x0) fun x14 =>
 pA Tryz.prog (oFld 233 x14 0) fun x15 =>
 pL Tryz.prog (oLoad 85 x15) w2 fun x16 =>
 pA Tryz.prog (oNil x16) fun x17 =>
 pA Tryz.prog (oFld 171 x17 1) fun x18 =>
 pL Tryz.prog (oLoad 97 x18) w2 fun x19 =>
 pN Tryz.prog (oCall 103 [x19]) w2 fun x20 w3 =>
 ((Sem.run Tryz.prog (oLoad 123 x11) w3 = .ok (.value x12) w3) ∧ (Sem.run Tryz.prog (oLoad 85 x8) w3 = .ok (.value x9) w3) ∧ True) ∧ (pN Tryz.prog (oCall 142 [x12, x20]) w3 fun x21 w4 =>
 (True) ∧ (pA Tryz.prog (oBin .mul 3 (.const (.int .i64 8)) (.tmp 21) (.int .i64 8) x21) fun x22 =>
 pN Tryz.prog (oFld 139 x3 0) w4 fun x25 w5 =>
 pN Tryz.prog (oLoad 137 x25) w5 fun x26 w6 =>
 pN Tryz.prog (oCall 167 [x0, x26, (.int .i64 0)]) w6 fun x27 w7 =>
 pN Tryz.prog (oBin .eql 3 (.tmp 27) (.const (.int .i64 0)) x27 (.int .i64 0)) w7 fun x28 w8 =>
 pIf x28
 (pN Tryz.prog (oFld 139 x3 1) w8 fun x30 w9 =>
 pN Tryz.prog (oLoad 137 x30) w9 fun x31 w10 =>
 pN Tryz.prog (oCall 188 [x0, x31, x22, (.int .i64 3)]) w10 fun x33 w11 =>
 pN Tryz.prog (oBin .add 3 (.const (.int .i64 2)) (.tmp 33) (.int .i64 2) x33) w11 fun x34 w12 =>
 Q x34 w12)
 (pN Tryz.prog (oFld 139 x3 0) w8 fun x37 w13 =>
 pN Tryz.prog (oLoad 137 x37) w13 fun x38 w14 =>
 pN Tryz.prog (oCall 167 [x0, x38, (.int .i64 1)]) w14 fun x39 w15 =>
 pN Tryz.prog (oBin .eql 3 (.tmp 39) (.const (.int .i64 0)) x39 (.int .i64 0)) w15 fun x40 w16 =>
 pIf x40
 (pN Tryz.prog (oFld 139 x3 2) w16 fun x42 w17 =>
 pN Tryz.prog (oLoad 137 x42) w17 fun x43 w18 =>
 pN Tryz.prog (oCall 188 [x0, x43, x22, (.int .i64 3)]) w18 fun x45 w19 =>
 pN Tryz.prog (oBin .add 3 (.const (.int .i64 10)) (.tmp 45) (.int .i64 10) x45) w19 fun x46 w20 =>
 Q x46 w20)
 (pN Tryz.prog (oFld 139 x3 3) w16 fun x48 w21 =>
 pN Tryz.prog (oLoad 137 x48) w21 fun x49 w22 =>
 pN Tryz.prog (oCall 188 [x0, x49, (.int .i64 0), (.int .i64 8)]) w22 fun x50 w23 =>
 pN Tryz.prog (oBin .add 3 (.const (.int .i64 18)) (.tmp 50) (.int .i64 18) x50) w23 fun x51 w24 =>
 Q x51 w24))))
noncomputable def lzdec_reader_length.c : Code := match Tryz.f169.body with | some c => c | none => .skip
theorem lzdec_reader_length.eq [Pan] (x0 : Value) (x1 : Value) (w : World) (Q : Value → World → Prop) : cw Tryz.prog lzdec_reader_length.H lzdec_reader_length.c (endQ Tryz.prog Tryz.f169.results.toList Q) (argsE [x0, x1]) w = lzdec_reader_length.F x0 x1 w Q := by kernel_rfl
theorem lzdec_reader_length.calls [Pan] {x0 : Value} {x1 : Value} {w : World} {Q : Value → World → Prop} (h : lzdec_reader_length.F x0 x1 w Q) : Calls Tryz.prog 169 #[x0, x1] w (retP Q) :=
  calls_of_cw (H := lzdec_reader_length.H) (c := lzdec_reader_length.c) (args := [x0, x1]) mixed Tryz.func169 (by kernel_rfl) (by kernel_rfl) (Nat.le_of_ble_eq_true (by kernel_rfl)) ((lzdec_reader_length.eq x0 x1 w Q).mpr h)

def lzdec_reader_distance.H : Hints := { cut := fun  | _ => none, loop := fun  | _ => ([], 0), order := fun | 6 => [(0, 0), (1, 1), (2, 3), (3, 7), (4, 15), (5, 31), (6, 63), (7, 127), (8, 255), (9, 511), (10, 1023), (11, 2047), (12, 4095), (14, 8191), (13, 24575), (15, 32767), (16, 65535), (17, 131071)] | _ => [] }
def lzdec_reader_distance.F [Pan] (x0 : Value) (x1 : Value) (w : World) (Q : Value → World → Prop) : Prop :=
 pN Tryz.prog (oNil x0) w fun x12 w1 =>
 pN Tryz.prog (oFld 233 x12 0) w1 fun x13 w2 =>
 pN Tryz.prog (oLoad 85 x13) w2 fun x14 w3 =>
 pN Tryz.prog (oNil x14) w3 fun x15 w4 =>
 pN Tryz.prog (oFld 171 x15 0) w4 fun x16 w5 =>
 pN Tryz.prog (oLoad 123 x16) w5 fun x17 w6 =>
 pN Tryz.prog (oNil x17) w6 fun x18 w7 =>
 pN Tryz.prog (oFld 141 x18 11) w7 fun x19 w8 =>
 pN Tryz.prog (oLoad 137 x19) w8 fun x20 w9 =>
 pN Tryz.prog (oBin .sub 3 (.tmp 21) (.const (.int .i64 2)) x1 (.int .i64 2)) w9 fun x22 w10 =>
 pN Tryz.prog (oBi .min #[3, 3] 3 [false, true] [x22, (.int .i64 3)]) w10 fun x23 w11 =>
 pN Tryz.prog (oBi .max #[3, 3] 3 [true, false] [(.int .i64 0), x23]) w11 fun x24 w12 =>
 pN Tryz.prog (oBin .mul 3 (.const (.int .i64 64)) (.tmp 24) (.int .i64 64) x24) w12 fun x25 w13 =>
 pN Tryz.prog (oCall 188 [x0, x20, x25, (.int .i64 6)]) w13 fun x26 w14 =>
 pN Tryz.prog (oCall 146 [x26]) w14 fun x29 w15 =>
 pN Tryz.prog (oExt x29 0) w15 fun x30 w16 =>
 pN Tryz.prog (oExt x29 1) w16 fun x31 w17 =>
 pN Tryz.prog (oExt x29 2) w17 fun _ w18 =>
 pN Tryz.prog (oBin .eql 3 (.tmp 34) (.const (.int .i64 0)) x31 (.int .i64 0)) w18 fun x35 w19 =>
 pIf x35
 (Q x30 w19)
 (pN Tryz.prog (oCall 147 [x26]) w19 fun x39 w20 =>
 pN Tryz.prog (oUn .not x39) w20 fun x40 w21 =>
 pIf x40
 (pDr w21 fun w22 =>
 pA Tryz.prog (oNil x0) fun x44 =>
 pA Tryz.prog (oFld 233 x44 0) fun x45 =>
 pL Tryz.prog (oLoad 85 x45) w22 fun x46 =>
 pA Tryz.prog (oNil x46) fun x47 =>
 pA Tryz.prog (oFld 171 x47 0) fun x48 =>
 pL Tryz.prog (oLoad 123 x48) w22 fun x49 =>
 pA Tryz.prog (oNil x49) fun x50 =>
 pA Tryz.prog (oFld 141 x50 12) fun x51 =>
 pL Tryz.prog (oLoad 137 x51) w22 fun x52 =>
 pN Tryz.prog (oCall 148 [x26]) w22 fun x54 w23 =>
 ((Sem.run Tryz.prog (oLoad 137 x51) w23 = .ok (.value x52) w23) ∧ (Sem.run Tryz.prog (oLoad 123 x48) w23 = .ok (.value x49) w23) ∧ (Sem.run Tryz.prog (oLoad 85 x45) w23 = .ok (.value x46) w23) ∧ True) ∧ (pN Tryz.prog (oCall 189 [x0, x52, x54, x31]) w23 fun x56 w24 =>
 (True) ∧ (pA Tryz.prog (oBin .add 3 (.tmp 41) (.tmp 56) x30 x56) fun x57 =>
 Q x57 w24)))
 (pN Tryz.prog (oBin .sub 3 (.tmp 59) (.const (.int .i64 4)) x31 (.int .i64 4)) w21 fun x60 w25 =>
 pN Tryz.prog (oCall 190 [x0, x60]) w25 fun x61 w26 =>
 pN Tryz.prog (oBin .shl 3 (.tmp 63) (.const (.int .u64 4)) x61 (.int .u64 4)) w26 fun x64 w27 =>
 pN Tryz.prog (oBin .add 3 (.tmp 62) (.tmp 64) x30 x64) w27 fun x65 w28 =>
 pN Tryz.prog (oNil x0) w28 fun x68 w29 =>
 pN Tryz.prog (oFld 233 x68 0) w29 fun x69 w30 =>
 pN Tryz.prog (oLoad 85 x69) w30 fun x70 w31 =>
 pN Tryz.prog (oNil x70) w31 fun x71 w32 =>
 pN Tryz.prog (oFld 171 x71 0) w32 fun x72 w33 =>
 pN Tryz.prog (oLoad 123 x72) w33 fun x73 w34 =>
 pN Tryz.prog (oNil x73) w34 fun x74 w35 =>
 pN Tryz.prog (oFld 141 x74 13) w35 fun x75 w36 =>
 pN Tryz.prog (oLoad 137 x75) w36 fun x76 w37 =>
 pN Tryz.prog (oCall 189 [x0, x76, (.int .i64 0), (.int .i64 4)]) w37 fun x77 w38 =>
 pN Tryz.prog (oBin .add 3 (.tmp 65) (.tmp 77) x65 x77) w38 fun x78 w39 =>
 Q x78 w39))
noncomputable def lzdec_reader_distance.c : Code := match Tryz.f170.body with | some c => c | none => .skip
theorem lzdec_reader_distance.eq [Pan] (x0 : Value) (x1 : Value) (w : World) (Q : Value → World → Prop) : cw Tryz.prog lzdec_reader_distance.H lzdec_reader_distance.c (endQ Tryz.prog Tryz.f170.results.toList Q) (argsE [x0, x1]) w = lzdec_reader_distance.F x0 x1 w Q := by kernel_rfl
theorem lzdec_reader_distance.calls [Pan] {x0 : Value} {x1 : Value} {w : World} {Q : Value → World → Prop} (h : lzdec_reader_distance.F x0 x1 w Q) : Calls Tryz.prog 170 #[x0, x1] w (retP Q) :=
  calls_of_cw (H := lzdec_reader_distance.H) (c := lzdec_reader_distance.c) (args := [x0, x1]) mixed Tryz.func170 (by kernel_rfl) (by kernel_rfl) (Nat.le_of_ble_eq_true (by kernel_rfl)) ((lzdec_reader_distance.eq x0 x1 w Q).mpr h)

def lzdec_reader_got.H : Hints := { cut := fun  | _ => none, loop := fun  | _ => ([], 0), order := fun  | _ => [] }
def lzdec_reader_got.F [Pan] (x0 : Value) (x1 : Value) (x2 : Value) (w : World) (Q : Value → World → Prop) : Prop :=
 pN Tryz.prog (oBin .neq 38 (.tmp 7) (.const (.int .i64 0)) x2 (.int .i64 0)) w fun x8 w1 =>
 pIf x8
 (pN Tryz.prog (oNil x0) w1 fun x10 w2 =>
 pN Tryz.prog (oFld 233 x10 2) w2 fun x11 w3 =>
 pN Tryz.prog (oStore 4 x11 (.bool true)) w3 fun _ w4 =>
 Q (.int .i64 0) w4)
 (Q x1 w1)
noncomputable def lzdec_reader_got.c : Code := match Tryz.f187.body with | some c => c | none => .skip
theorem lzdec_reader_got.eq [Pan] (x0 : Value) (x1 : Value) (x2 : Value) (w : World) (Q : Value → World → Prop) : cw Tryz.prog lzdec_reader_got.H lzdec_reader_got.c (endQ Tryz.prog Tryz.f187.results.toList Q) (argsE [x0, x1, x2]) w = lzdec_reader_got.F x0 x1 x2 w Q := by kernel_rfl
theorem lzdec_reader_got.calls [Pan] {x0 : Value} {x1 : Value} {x2 : Value} {w : World} {Q : Value → World → Prop} (h : lzdec_reader_got.F x0 x1 x2 w Q) : Calls Tryz.prog 187 #[x0, x1, x2] w (retP Q) :=
  calls_of_cw (H := lzdec_reader_got.H) (c := lzdec_reader_got.c) (args := [x0, x1, x2]) mixed Tryz.func187 (by kernel_rfl) (by kernel_rfl) (Nat.le_of_ble_eq_true (by kernel_rfl)) ((lzdec_reader_got.eq x0 x1 x2 w Q).mpr h)

def lzdec_reader_tree.H : Hints := { cut := fun  | _ => none, loop := fun  | _ => ([], 0), order := fun  | _ => [] }
def lzdec_reader_tree.F [Pan] (x0 : Value) (x1 : Value) (x2 : Value) (x3 : Value) (w : World) (Q : Value → World → Prop) : Prop :=
 pN Tryz.prog (oNil x0) w fun x10 w1 =>
 pN Tryz.prog (oFld 233 x10 2) w1 fun x11 w2 =>
 pN Tryz.prog (oLoad 4 x11) w2 fun x12 w3 =>
 pIf x12
 (Q (.int .i64 0) w3)
 (pN Tryz.prog (oNil x0) w3 fun x15 w4 =>
 pN Tryz.prog (oFld 233 x15 1) w4 fun x16 w5 =>
 pN Tryz.prog (oLoad 76 x16) w5 fun x17 w6 =>
 pN Tryz.prog (oCall 202 [x17, x1, x2, x3]) w6 fun x21 w7 =>
 pN Tryz.prog (oExt x21 0) w7 fun x22 w8 =>
 pN Tryz.prog (oExt x21 1) w8 fun x23 w9 =>
 pN Tryz.prog (oCall 187 [x0, x22, x23]) w9 fun x24 w10 =>
 Q x24 w10)
noncomputable def lzdec_reader_tree.c : Code := match Tryz.f188.body with | some c => c | none => .skip
theorem lzdec_reader_tree.eq [Pan] (x0 : Value) (x1 : Value) (x2 : Value) (x3 : Value) (w : World) (Q : Value → World → Prop) : cw Tryz.prog lzdec_reader_tree.H lzdec_reader_tree.c (endQ Tryz.prog Tryz.f188.results.toList Q) (argsE [x0, x1, x2, x3]) w = lzdec_reader_tree.F x0 x1 x2 x3 w Q := by kernel_rfl
theorem lzdec_reader_tree.calls [Pan] {x0 : Value} {x1 : Value} {x2 : Value} {x3 : Value} {w : World} {Q : Value → World → Prop} (h : lzdec_reader_tree.F x0 x1 x2 x3 w Q) : Calls Tryz.prog 188 #[x0, x1, x2, x3] w (retP Q) :=
  calls_of_cw (H := lzdec_reader_tree.H) (c := lzdec_reader_tree.c) (args := [x0, x1, x2, x3]) mixed Tryz.func188 (by kernel_rfl) (by kernel_rfl) (Nat.le_of_ble_eq_true (by kernel_rfl)) ((lzdec_reader_tree.eq x0 x1 x2 x3 w Q).mpr h)

def lzdec_reader_back.H : Hints := { cut := fun  | _ => none, loop := fun  | _ => ([], 0), order := fun  | _ => [] }
def lzdec_reader_back.F [Pan] (x0 : Value) (x1 : Value) (x2 : Value) (x3 : Value) (w : World) (Q : Value → World → Prop) : Prop :=
 pN Tryz.prog (oNil x0) w fun x10 w1 =>
 pN Tryz.prog (oFld 233 x10 2) w1 fun x11 w2 =>
 pN Tryz.prog (oLoad 4 x11) w2 fun x12 w3 =>
 pIf x12
 (Q (.int .i64 0) w3)
 (pN Tryz.prog (oNil x0) w3 fun x15 w4 =>
 pN Tryz.prog (oFld 233 x15 1) w4 fun x16 w5 =>
 pN Tryz.prog (oLoad 76 x16) w5 fun x17 w6 =>
 pN Tryz.prog (oCall 203 [x17, x1, x2, x3]) w6 fun x21 w7 =>
 pN Tryz.prog (oExt x21 0) w7 fun x22 w8 =>
 pN Tryz.prog (oExt x21 1) w8 fun x23 w9 =>
 pN Tryz.prog (oCall 187 [x0, x22, x23]) w9 fun x24 w10 =>
 Q x24 w10)
noncomputable def lzdec_reader_back.c : Code := match Tryz.f189.body with | some c => c | none => .skip
theorem lzdec_reader_back.eq [Pan] (x0 : Value) (x1 : Value) (x2 : Value) (x3 : Value) (w : World) (Q : Value → World → Prop) : cw Tryz.prog lzdec_reader_back.H lzdec_reader_back.c (endQ Tryz.prog Tryz.f189.results.toList Q) (argsE [x0, x1, x2, x3]) w = lzdec_reader_back.F x0 x1 x2 x3 w Q := by kernel_rfl
theorem lzdec_reader_back.calls [Pan] {x0 : Value} {x1 : Value} {x2 : Value} {x3 : Value} {w : World} {Q : Value → World → Prop} (h : lzdec_reader_back.F x0 x1 x2 x3 w Q) : Calls Tryz.prog 189 #[x0, x1, x2, x3] w (retP Q) :=
  calls_of_cw (H := lzdec_reader_back.H) (c := lzdec_reader_back.c) (args := [x0, x1, x2, x3]) mixed Tryz.func189 (by kernel_rfl) (by kernel_rfl) (Nat.le_of_ble_eq_true (by kernel_rfl)) ((lzdec_reader_back.eq x0 x1 x2 x3 w Q).mpr h)

def lzdec_reader_direct.H : Hints := { cut := fun  | _ => none, loop := fun  | _ => ([], 0), order := fun  | _ => [] }
def lzdec_reader_direct.F [Pan] (x0 : Value) (x1 : Value) (w : World) (Q : Value → World → Prop) : Prop :=
 pN Tryz.prog (oNil x0) w fun x8 w1 =>
 pN Tryz.prog (oFld 233 x8 2) w1 fun x9 w2 =>
 pN Tryz.prog (oLoad 4 x9) w2 fun x10 w3 =>
 pIf x10
 (Q (.int .i64 0) w3)
 (pN Tryz.prog (oNil x0) w3 fun x13 w4 =>
 pN Tryz.prog (oFld 233 x13 1) w4 fun x14 w5 =>
 pN Tryz.prog (oLoad 76 x14) w5 fun x15 w6 =>
 pN Tryz.prog (oCall 166 [x15, x1]) w6 fun x17 w7 =>
 pN Tryz.prog (oExt x17 0) w7 fun x18 w8 =>
 pN Tryz.prog (oExt x17 1) w8 fun x19 w9 =>
 pN Tryz.prog (oConv 148 3 x18) w9 fun x22 w10 =>
 pN Tryz.prog (oCall 187 [x0, x22, x19]) w10 fun x24 w11 =>
 Q x24 w11)
noncomputable def lzdec_reader_direct.c : Code := match Tryz.f190.body with | some c => c | none => .skip
theorem lzdec_reader_direct.eq [Pan] (x0 : Value) (x1 : Value) (w : World) (Q : Value → World → Prop) : cw Tryz.prog lzdec_reader_direct.H lzdec_reader_direct.c (endQ Tryz.prog Tryz.f190.results.toList Q) (argsE [x0, x1]) w = lzdec_reader_direct.F x0 x1 w Q := by kernel_rfl
theorem lzdec_reader_direct.calls [Pan] {x0 : Value} {x1 : Value} {w : World} {Q : Value → World → Prop} (h : lzdec_reader_direct.F x0 x1 w Q) : Calls Tryz.prog 190 #[x0, x1] w (retP Q) :=
  calls_of_cw (H := lzdec_reader_direct.H) (c := lzdec_reader_direct.c) (args := [x0, x1]) mixed Tryz.func190 (by kernel_rfl) (by kernel_rfl) (Nat.le_of_ble_eq_true (by kernel_rfl)) ((lzdec_reader_direct.eq x0 x1 w Q).mpr h)

end Go.Proofs.YtbgnnjfpiblkmaaGreatDoor

namespace Go.Proofs.YtbgnnjfpiblkmaaGreatDoor
open Go
set_option linter.unusedSimpArgs false
set_option linter.unnecessarySimpa false
set_option linter.unusedSectionVars false
set_option linter.unusedVariables false
namespace R

theorem snoc_ind {α : Type} {p : List α → Prop} (h0 : p []) (h1 : ∀ l b, p l → p (l ++ [b])) (l : List α) : p l := by
  have : ∀ m : List α, p m.reverse := by
    intro m
    induction m with
    | nil => exact h0
    | cons b m ih => rw [List.reverse_cons]; exact h1 _ _ ih
  have := this l.reverse
  rwa [List.reverse_reverse] at this

def num (l : List UInt8) : Int := l.foldl (fun n b => n * 256 + (b.toNat : Int)) 0
theorem foldl_num (l : List UInt8) : ∀ n : Int, l.foldl (fun n b => n * 256 + (b.toNat : Int)) n = n * 256 ^ l.length + num l := by
  induction l with
  | nil => intro n; simp [num]
  | cons b l ih =>
    intro n
    simp only [num, List.foldl_cons, List.length_cons]
    rw [ih, ih (0 * 256 + (b.toNat : Int)), Int.pow_succ]
    grind
theorem num_append (l m : List UInt8) : num (l ++ m) = num l * 256 ^ m.length + num m := by
  rw [num, List.foldl_append, foldl_num]; rfl
theorem num_snoc (l : List UInt8) (b : UInt8) : num (l ++ [b]) = num l * 256 + (b.toNat : Int) := by
  rw [num_append]; simp [num]
theorem num_nonneg (l : List UInt8) : 0 ≤ num l := by
  induction l using snoc_ind with
  | h0 => simp [num]
  | h1 l b ih => rw [num_snoc]; omega
theorem num_lt (l : List UInt8) : num l < 256 ^ l.length := by
  induction l using snoc_ind with
  | h0 => simp [num]
  | h1 l b ih =>
    rw [num_snoc, List.length_append, List.length_cons, List.length_nil, Int.pow_succ]
    have := b.toNat_lt
    omega

def digits (n : Int) : Nat → List UInt8
  | 0 => []
  | k + 1 => digits (n / 256) k ++ [byteOf n]
theorem digits_length (k : Nat) : ∀ n : Int, (digits n k).length = k := by
  induction k with
  | zero => intro n; rfl
  | succ k ih => intro n; simp [digits, ih]
theorem num_digits (k : Nat) : ∀ n : Int, num (digits n k) = n % 256 ^ k := by
  induction k with
  | zero => intro n; simp [digits, num, Int.emod_one]
  | succ k ih =>
    intro n
    rw [digits, num_snoc, ih, byteOf_toNat, Int.pow_succ]
    have p : (0 : Int) < 256 ^ k := Int.pow_pos (by omega)
    generalize (256 : Int) ^ k = q at p
    have h1 := Int.emod_add_mul_ediv n 256
    have h2 := Int.emod_add_mul_ediv (n / 256) q
    have h3 := Int.emod_add_mul_ediv n (q * 256)
    have h4 : n / 256 / q = n / (q * 256) := by rw [Int.ediv_ediv_of_nonneg (by omega)]; congr 1; grind
    rw [h4] at h2
    generalize n / (q * 256) = d at h2 h3
    generalize n / 256 = c at h1 h2 ⊢
    generalize c % q = e at h2 ⊢
    grind
theorem digits_num (l : List UInt8) : digits (num l) l.length = l := by
  induction l using snoc_ind with
  | h0 => rfl
  | h1 l b ih =>
    rw [List.length_append, List.length_cons, List.length_nil, digits, num_snoc]
    have := b.toNat_lt
    have h1 : (num l * 256 + (b.toNat : Int)) / 256 = num l := by omega
    have h2 : byteOf (num l * 256 + (b.toNat : Int)) = b := by
      apply UInt8.toNat_inj.1
      have := byteOf_toNat (num l * 256 + (b.toNat : Int))
      omega
    rw [h1, ih, h2]
theorem digits_of {l : List UInt8} {n : Int} {k : Nat} (hl : l.length = k) (h : num l = n) : l = digits n k := by
  rw [← hl, ← h, digits_num]

structure S where
  N : Int
  R : Int
  k : Nat

def S.new : S := ⟨0, 4294967295, 0⟩
def S.widen (s : S) : S := if h : 0 < s.R ∧ s.R < 16777216 then S.widen ⟨s.N * 256, s.R * 256, s.k + 1⟩ else s
termination_by (16777216 - s.R).toNat
decreasing_by omega
theorem S.widen_go {s : S} (h0 : 0 < s.R) (h1 : s.R < 16777216) : s.widen = S.widen ⟨s.N * 256, s.R * 256, s.k + 1⟩ := by
  rw [S.widen, dif_pos ⟨h0, h1⟩]
theorem S.widen_no {s : S} (h1 : ¬ s.R < 16777216) : s.widen = s := by
  rw [S.widen, dif_neg (by omega)]
def S.cut (s : S) (c bit : Int) : S := (if bit = 0 then ⟨s.N, c, s.k⟩ else ⟨s.N + c, s.R - c, s.k⟩ : S).widen
def S.one (s : S) (bit : Int) : S := (if bit = 1 then ⟨s.N + s.R / 2, s.R / 2, s.k⟩ else ⟨s.N, s.R / 2, s.k⟩ : S).widen
def S.direct (s : S) (v : Int) : Nat → S
  | 0 => s
  | n + 1 => S.direct (s.one (v / 2 ^ n % 2)) v n
def S.bytes (s : S) : List UInt8 := digits s.N (s.k + 5)

structure Ok (s : S) : Prop where
  n0 : 0 ≤ s.N
  r0 : 16777216 ≤ s.R
  r1 : s.R < 4294967296
  top : s.N + s.R ≤ 4294967296 * 256 ^ s.k

theorem Ok.new : Ok S.new := ⟨by decide, by decide, by decide, by decide⟩
theorem widen_ok : ∀ (n : Nat) (s : S), (16777216 - s.R).toNat = n → 0 ≤ s.N → 0 < s.R → s.R < 4294967296 → s.N + s.R ≤ 4294967296 * 256 ^ s.k → Ok s.widen := by
  intro n
  induction n using Nat.strongRecOn with
  | _ n ih =>
    intro s hn h0 h1 h2 h3
    by_cases c : s.R < 16777216
    · rw [S.widen_go h1 c]
      refine ih (16777216 - s.R * 256).toNat (by omega) ⟨s.N * 256, s.R * 256, s.k + 1⟩ rfl (by simp only; omega) (by simp only; omega) (by simp only; omega) ?_
      simp only [Int.pow_succ]
      generalize (256 : Int) ^ s.k = W at h3 ⊢
      omega
    · rw [S.widen_no c]
      exact ⟨h0, by omega, h2, h3⟩
theorem Ok.cut {s : S} (h : Ok s) (c bit : Int) (h0 : 0 < c) (h1 : c < s.R) : Ok (s.cut c bit) := by
  obtain ⟨a1, a2, a3, a4⟩ := h
  unfold S.cut
  split
  · exact widen_ok _ _ rfl a1 h0 (by simp only; omega) (by simp only; omega)
  · exact widen_ok _ _ rfl (by simp only; omega) (by simp only; omega) (by simp only; omega) (by simp only; omega)
theorem Ok.one {s : S} (h : Ok s) (bit : Int) : Ok (s.one bit) := by
  obtain ⟨a1, a2, a3, a4⟩ := h
  unfold S.one
  split
  · exact widen_ok _ _ rfl (by simp only; omega) (by simp only; omega) (by simp only; omega) (by simp only; omega)
  · exact widen_ok _ _ rfl a1 (by simp only; omega) (by simp only; omega) (by simp only; omega)
theorem Ok.direct (v : Int) (n : Nat) : ∀ {s : S}, Ok s → Ok (s.direct v n) := by
  induction n with
  | zero => intro s h; exact h
  | succ n ih => intro s h; exact ih (h.one _)

theorem widen_mono_n : ∀ (n : Nat) (s : S), (16777216 - s.R).toNat = n → s.k ≤ s.widen.k := by
  intro n
  induction n using Nat.strongRecOn with
  | _ n ih =>
    intro s hn
    by_cases c : 0 < s.R ∧ s.R < 16777216
    · rw [S.widen_go c.1 c.2]
      have := ih (16777216 - s.R * 256).toNat (by omega) ⟨s.N * 256, s.R * 256, s.k + 1⟩ rfl
      simp only at this
      omega
    · rw [S.widen, dif_neg c]; exact Nat.le_refl _
theorem widen_mono (s : S) : s.k ≤ s.widen.k := widen_mono_n _ s rfl
theorem widen_k : ∀ (n : Nat) (s : S), (16777216 - s.R).toNat = n → 0 < s.R → s.widen.k ≤ s.k + 3 ∧ (65536 ≤ s.R → s.widen.k ≤ s.k + 1) := by
  have step : ∀ s : S, 16777216 ≤ s.R → s.widen.k = s.k := fun s h => by rw [S.widen_no (by omega)]
  have s1 : ∀ s : S, 65536 ≤ s.R → s.widen.k ≤ s.k + 1 := fun s h => by
    by_cases c : s.R < 16777216
    · rw [S.widen_go (by omega) c, step _ (by simp only; omega)]; exact Nat.le_refl _
    · rw [step s (by omega)]; omega
  have s2 : ∀ s : S, 256 ≤ s.R → s.widen.k ≤ s.k + 2 := fun s h => by
    by_cases c : s.R < 16777216
    · rw [S.widen_go (by omega) c]; have := s1 ⟨s.N * 256, s.R * 256, s.k + 1⟩ (by simp only; omega); simp only at this; omega
    · rw [step s (by omega)]; omega
  intro n s _ h
  refine ⟨?_, s1 s⟩
  by_cases c : s.R < 16777216
  · rw [S.widen_go (by omega) c]; have := s2 ⟨s.N * 256, s.R * 256, s.k + 1⟩ (by simp only; omega); simp only at this; omega
  · rw [step s (by omega)]; omega
theorem cut_k {s : S} (h : Ok s) (c bit : Int) (h0 : 0 < c) (h1 : c < s.R) : (s.cut c bit).k ≤ s.k + 3 := by
  unfold S.cut
  split
  · exact (widen_k _ ⟨s.N, c, s.k⟩ rfl h0).1
  · exact (widen_k _ ⟨s.N + c, s.R - c, s.k⟩ rfl (by simp only; omega)).1
theorem one_k {s : S} (h : Ok s) (bit : Int) : (s.one bit).k ≤ s.k + 1 := by
  have := h.r0
  unfold S.one
  split
  · exact (widen_k _ ⟨s.N + s.R / 2, s.R / 2, s.k⟩ rfl (by simp only; omega)).2 (by simp only; omega)
  · exact (widen_k _ ⟨s.N, s.R / 2, s.k⟩ rfl (by simp only; omega)).2 (by simp only; omega)

structure E where
  low : Int
  rng : Int
  held : UInt8
  wait : Nat
  out : List UInt8

def E.new : E := ⟨0, 4294967295, 0, 0, []⟩
def E.V (e : E) : Int := ((num e.out * 256 + e.held.toNat) * 256 ^ e.wait + (256 ^ e.wait - 1)) * 4294967296 + e.low

structure Inv (e : E) : Prop where
  l0 : 0 ≤ e.low
  r0 : 0 < e.rng
  sum : e.low + e.rng < 8589934592
  held : e.held.toNat = 255 → e.low + e.rng ≤ 4294967296

def E.shift (e : E) : E :=
  if e.low < 4278190080 ∨ 4294967295 < e.low then
    ⟨e.low % 16777216 * 256, e.rng, byteOf (e.low / 16777216), 0, e.out ++ [e.held + byteOf (e.low / 4294967296)] ++ List.replicate e.wait (255 + byteOf (e.low / 4294967296))⟩
  else ⟨e.low % 16777216 * 256, e.rng, e.held, e.wait + 1, e.out⟩

theorem shift_low (e : E) : e.shift.low = e.low % 16777216 * 256 := by unfold E.shift; split <;> rfl
theorem shift_rng (e : E) : e.shift.rng = e.rng := by unfold E.shift; split <;> rfl
theorem shift_len (e : E) : e.shift.out.length + e.shift.wait = e.out.length + e.wait + 1 := by
  unfold E.shift; split <;> simp <;> omega

theorem shift_with (e : E) (r : Int) : ({ e with rng := r } : E).shift = { e.shift with rng := r } := by unfold E.shift; split <;> rfl

theorem num_replicate (b : UInt8) (n : Nat) : num (List.replicate n b) * 255 = b.toNat * (256 ^ n - 1) := by
  induction n with
  | zero => simp [num]
  | succ n ih =>
    rw [List.replicate_succ', num_snoc, Int.pow_succ]
    grind

theorem shift_V {e : E} (h : Inv e) : e.shift.V = e.V * 256 := by
  obtain ⟨h1, h2, h3, h4⟩ := h
  have hh := e.held.toNat_lt
  unfold E.shift
  have p : (0 : Int) < 256 ^ e.wait := Int.pow_pos (by omega)
  by_cases c : e.low < 4278190080 ∨ 4294967295 < e.low
  · rw [if_pos c]
    have ehb := byteOf_toNat (e.low / 16777216)
    have ec := byteOf_toNat (e.low / 4294967296)
    simp only [E.V, Int.pow_zero]
    rw [num_append, num_snoc, List.length_replicate]
    have er := num_replicate (255 + byteOf (e.low / 4294967296)) e.wait
    generalize (256 : Int) ^ e.wait = W at p er ⊢
    rcases c with c | c
    · have e0 : byteOf (e.low / 4294967296) = 0 := by
        apply UInt8.toNat_inj.1
        have e : ((0 : UInt8).toNat) = 0 := rfl
        omega
      rw [e0] at er ⊢
      have e1 : ((255 + 0 : UInt8).toNat : Int) = 255 := rfl
      have e2 : e.held + 0 = e.held := by simp
      rw [e1] at er
      rw [e2, ehb]
      have er' : num (List.replicate e.wait (255 + 0 : UInt8)) = W - 1 := by omega
      rw [er']
      have e3 : e.low / 16777216 % 256 * 4294967296 + e.low % 16777216 * 256 = e.low * 256 := by omega
      grind
    · have e0 : byteOf (e.low / 4294967296) = 1 := by
        apply UInt8.toNat_inj.1
        have e : ((1 : UInt8).toNat) = 1 := rfl
        omega
      rw [e0] at er ⊢
      have e1 : ((255 + 1 : UInt8).toNat : Int) = 0 := rfl
      rw [e1] at er
      have hne : e.held.toNat ≠ 255 := fun hc => by have := h4 hc; omega
      have e2 : ((e.held + 1).toNat : Int) = e.held.toNat + 1 := by
        rw [UInt8.toNat_add]
        have e : ((1 : UInt8).toNat) = 1 := rfl
        omega
      rw [e2, ehb]
      have er' : num (List.replicate e.wait (255 + 1 : UInt8)) = 0 := by omega
      rw [er']
      have e3 : e.low / 16777216 % 256 * 4294967296 + e.low % 16777216 * 256 = (e.low - 4294967296) * 256 := by omega
      grind
  · rw [if_neg c]
    simp only [E.V, Int.pow_succ]
    generalize (256 : Int) ^ e.wait = W at p ⊢
    have e3 : e.low % 16777216 = e.low - 4278190080 := by omega
    rw [e3]
    grind

theorem shift_inv {e : E} (h : Inv e) (r : Int) (hr0 : 0 < r) (hr1 : r ≤ e.rng * 256) (hr2 : r < 4294967296) : Inv { e.shift with rng := r } := by
  obtain ⟨h1, h2, h3, h4⟩ := h
  have hl := shift_low e
  refine ⟨by simp only [hl]; omega, hr0, by simp only [hl]; omega, fun hh => ?_⟩
  simp only [hl]
  unfold E.shift at hh
  split at hh
  · rename_i c
    simp only at hh
    have := byteOf_toNat (e.low / 16777216)
    rcases c with c | c <;> omega
  · rename_i c
    have := h4 hh
    omega

structure Rep (e : E) (s : S) : Prop where
  inv : Inv e
  val : e.V = s.N
  rng : e.rng = s.R
  len : e.out.length + e.wait = s.k

theorem Rep.new : Rep E.new S.new := by
  refine ⟨⟨by decide, by decide, by decide, fun h => ?_⟩, by decide, rfl, rfl⟩
  cases h

theorem Rep.shift {e : E} {s : S} (h : Rep e s) (r : Int) (hr0 : 0 < r) (hr1 : r ≤ e.rng * 256) (hr2 : r < 4294967296) : Rep { e.shift with rng := r } ⟨s.N * 256, r, s.k + 1⟩ := by
  refine ⟨shift_inv h.inv r hr0 hr1 hr2, ?_, rfl, ?_⟩
  · have := shift_V h.inv
    rw [h.val] at this
    exact this
  · have := shift_len e
    rw [h.len] at this
    exact this

theorem Rep.shift0 {e : E} {s : S} (h : Rep e s) (hr : e.rng < 4294967296) : Rep e.shift ⟨s.N * 256, e.rng, s.k + 1⟩ := by
  have := h.shift e.rng h.inv.r0 (by have := h.inv.r0; omega) hr
  have e1 : { e.shift with rng := e.rng } = e.shift := by rw [← shift_rng e]
  rwa [e1] at this
def E.shifts (e : E) : Nat → E
  | 0 => e
  | n + 1 => (E.shifts e n).shift

theorem Rep.bytes {e : E} {s : S} (h : Rep e s) (hr : e.rng < 4294967296) : e.shift.shift.shift.shift.shift.out = s.bytes ∧ e.shift.shift.shift.shift.shift.out.length = s.k + 5 := by
  have st : ∀ {e : E} {s : S}, Rep e s → e.rng < 4294967296 → Rep e.shift ⟨s.N * 256, e.rng, s.k + 1⟩ := by
    intro e s h hr
    have := h.shift e.rng h.inv.r0 (by have := h.inv.r0; omega) hr
    have e1 : { e.shift with rng := e.rng } = e.shift := by rw [← shift_rng e]
    rwa [e1] at this
  have h1 := st h hr
  have r1 := shift_rng e
  have h2 := st h1 (by rw [r1]; exact hr)
  have r2 := shift_rng e.shift
  have h3 := st h2 (by rw [r2, r1]; exact hr)
  have r3 := shift_rng e.shift.shift
  have h4 := st h3 (by rw [r3, r2, r1]; exact hr)
  have r4 := shift_rng e.shift.shift.shift
  have h5 := st h4 (by rw [r4, r3, r2, r1]; exact hr)
  have l0 := h.inv.l0
  have l1 := shift_low e
  have l2 := shift_low e.shift
  have l3 := shift_low e.shift.shift
  have l4 := shift_low e.shift.shift.shift
  have l4' : e.shift.shift.shift.shift.low = 0 := by omega
  have hv := h5.val
  have hl := h5.len
  generalize e.shift.shift.shift.shift = f at l4' hv hl ⊢
  have e5 : f.shift = ⟨0, f.rng, byteOf (f.low / 16777216), 0, f.shift.out⟩ := by
    unfold E.shift
    rw [if_pos (by omega), l4']
    rfl
  rw [e5] at hv hl
  simp only [E.V, Int.pow_zero, l4'] at hv hl
  have e6 : ((byteOf (0 / 16777216)).toNat : Int) = 0 := by rw [byteOf_toNat]; rfl
  rw [e6] at hv
  have hl5 : f.shift.out.length = s.k + 5 := by omega
  refine ⟨?_, hl5⟩
  unfold S.bytes
  exact digits_of hl5 (by omega)
end R
end Go.Proofs.YtbgnnjfpiblkmaaGreatDoor

namespace Go.Proofs.YtbgnnjfpiblkmaaGreatDoor
open Go
set_option linter.unusedSimpArgs false
set_option linter.unnecessarySimpa false
set_option linter.unusedSectionVars false
set_option linter.unusedVariables false
set_option maxRecDepth 100000

def prob_New.H : Hints := { cut := fun  | _ => none, loop := fun  | _ => ([], 0), order := fun  | _ => [] }
def prob_New.F [Pan] (x0 : Value) (w : World) (Q : Value → World → Prop) : Prop :=
 pN Tryz.prog (oBin .lss 3 (.tmp 5) (.const (.int .i64 0)) x0 (.int .i64 0)) w fun x6 w1 =>
 pGd (gB x6 false) (pN Tryz.prog (oMv x0) w1) w1 fun x8 w2 =>
 pGd (gB x6 false) (pN Tryz.prog (oBin .gtr 3 (.tmp 8) (.const (.int .i64 1048576)) x8 (.int .i64 1048576)) w2) w2 fun x9 w3 =>
 pN Tryz.prog (oPick x6 (.bool true) x9) w3 fun x10 w4 =>
 pIf x10
 (Q (.tuple #[(.pointer none), (.int .i64 7)]) w4)
 (pN Tryz.prog (oMk 217 x0 x0) w4 fun x12 w5 =>
 pN Tryz.prog (oBuild 254 [(0, x12)]) w5 fun x13 w6 =>
 pN Tryz.prog (oBox 254 x13) w6 fun x14 w7 =>
 pN Tryz.prog (oCall 174 [x14]) w7 fun _ w8 =>
 Q (.tuple #[x14, (.int .i64 0)]) w8)
noncomputable def prob_New.c : Code := match Tryz.f141.body with | some c => c | none => .skip
theorem prob_New.eq [Pan] (x0 : Value) (w : World) (Q : Value → World → Prop) : cw Tryz.prog prob_New.H prob_New.c (endQ Tryz.prog Tryz.f141.results.toList Q) (argsE [x0]) w = prob_New.F x0 w Q := by kernel_rfl
theorem prob_New.calls [Pan] {x0 : Value} {w : World} {Q : Value → World → Prop} (h : prob_New.F x0 w Q) : Calls Tryz.prog 141 #[x0] w (retP Q) :=
  calls_of_cw (H := prob_New.H) (c := prob_New.c) (args := [x0]) mixed Tryz.func141 (by kernel_rfl) (by kernel_rfl) (Nat.le_of_ble_eq_true (by kernel_rfl)) ((prob_New.eq x0 w Q).mpr h)

def prob_Set_Reset.H : Hints := { cut := fun  | _ => none, loop := fun | 1 => ([8], 261892) | _ => ([], 0), order := fun  | _ => [] }
def prob_Set_Reset.F [Pan] (x0 : Value) (w : World) (Q : Value → World → Prop) : Prop :=
 pN Tryz.prog (oNil x0) w fun x4 w1 =>
 pN Tryz.prog (oFld 254 x4 0) w1 fun x5 w2 =>
 pN Tryz.prog (oLoad 217 x5) w2 fun x6 w3 =>
 pN Tryz.prog (oBi .len #[217] 3 [false] [x6]) w3 fun x7 w4 =>
 ∃ (L1 : Value → World → Prop) (m1 : Value → World → Nat),
 L1 (.int .i64 0) w4 ∧
 ∀ (_k1 : Env) (v8l1 : Value) (w5 : World), L1 v8l1 w5 →
 pN Tryz.prog (oBin .lss 3 (.tmp 8) (.tmp 7) v8l1 x7) w5 fun x9 w6 =>
 pIf x9
 (pN Tryz.prog (oNil x0) w6 fun x12 w7 =>
 pN Tryz.prog (oFld 254 x12 0) w7 fun x13 w8 =>
 pN Tryz.prog (oLoad 217 x13) w8 fun x14 w9 =>
 pN Tryz.prog (oIdx 217 x14 v8l1) w9 fun x16 w10 =>
 pN Tryz.prog (oStore 3 x16 (.int .i64 1024)) w10 fun _ w11 =>
 pN Tryz.prog (oBin .add 3 (.tmp 8) (.const (.int .i64 1)) v8l1 (.int .i64 1)) w11 fun x17 w12 =>
 (L1 x17 w12 ∧ m1 x17 w12 < m1 v8l1 w5))
 (Q (.tuple #[]) w6)
noncomputable def prob_Set_Reset.c : Code := match Tryz.f174.body with | some c => c | none => .skip
theorem prob_Set_Reset.eq [Pan] (x0 : Value) (w : World) (Q : Value → World → Prop) : cw Tryz.prog prob_Set_Reset.H prob_Set_Reset.c (endQ Tryz.prog Tryz.f174.results.toList Q) (argsE [x0]) w = prob_Set_Reset.F x0 w Q := by kernel_rfl
theorem prob_Set_Reset.calls [Pan] {x0 : Value} {w : World} {Q : Value → World → Prop} (h : prob_Set_Reset.F x0 w Q) : Calls Tryz.prog 174 #[x0] w (retP Q) :=
  calls_of_cw (H := prob_Set_Reset.H) (c := prob_Set_Reset.c) (args := [x0]) mixed Tryz.func174 (by kernel_rfl) (by kernel_rfl) (Nat.le_of_ble_eq_true (by kernel_rfl)) ((prob_Set_Reset.eq x0 w Q).mpr h)

def prob_Set_At.H : Hints := { cut := fun  | _ => none, loop := fun  | _ => ([], 0), order := fun  | _ => [] }
def prob_Set_At.F [Pan] (x0 : Value) (x1 : Value) (w : World) (Q : Value → World → Prop) : Prop :=
 pN Tryz.prog (oCall 199 [x0, x1]) w fun x9 w1 =>
 pN Tryz.prog (oBin .neq 38 (.tmp 10) (.const (.int .i64 0)) x9 (.int .i64 0)) w1 fun x11 w2 =>
 pIf x11
 (Q (.tuple #[(.int .i64 0), x9]) w2)
 (pN Tryz.prog (oNil x0) w2 fun x14 w3 =>
 pN Tryz.prog (oFld 254 x14 0) w3 fun x15 w4 =>
 pN Tryz.prog (oLoad 217 x15) w4 fun x16 w5 =>
 pN Tryz.prog (oIdx 217 x16 x1) w5 fun x18 w6 =>
 pN Tryz.prog (oLoad 3 x18) w6 fun x19 w7 =>
 Q (.tuple #[x19, (.int .i64 0)]) w7)
noncomputable def prob_Set_At.c : Code := match Tryz.f179.body with | some c => c | none => .skip
theorem prob_Set_At.eq [Pan] (x0 : Value) (x1 : Value) (w : World) (Q : Value → World → Prop) : cw Tryz.prog prob_Set_At.H prob_Set_At.c (endQ Tryz.prog Tryz.f179.results.toList Q) (argsE [x0, x1]) w = prob_Set_At.F x0 x1 w Q := by kernel_rfl
theorem prob_Set_At.calls [Pan] {x0 : Value} {x1 : Value} {w : World} {Q : Value → World → Prop} (h : prob_Set_At.F x0 x1 w Q) : Calls Tryz.prog 179 #[x0, x1] w (retP Q) :=
  calls_of_cw (H := prob_Set_At.H) (c := prob_Set_At.c) (args := [x0, x1]) mixed Tryz.func179 (by kernel_rfl) (by kernel_rfl) (Nat.le_of_ble_eq_true (by kernel_rfl)) ((prob_Set_At.eq x0 x1 w Q).mpr h)

def prob_Set_Turn.H : Hints := { cut := fun | 4 => some ([], 268433408) | _ => none, loop := fun  | _ => ([], 0), order := fun | 3 => [(0, 0), (1, 1), (2, 3), (3, 7), (4, 15), (5, 31), (6, 63), (7, 127), (8, 255), (9, 511), (10, 1023), (11, 2047), (12, 4095), (13, 8191), (14, 16383), (15, 32767)] | _ => [] }
def prob_Set_Turn.F [Pan] (x0 : Value) (x1 : Value) (x2 : Value) (w : World) (Q : Value → World → Prop) : Prop :=
 pN Tryz.prog (oCall 199 [x0, x1]) w fun x10 w1 =>
 ∃ I4 : World → Prop,
 (pN Tryz.prog (oBin .eql 38 (.tmp 11) (.const (.int .i64 0)) x10 (.int .i64 0)) w1 fun x12 w2 =>
 pIf x12
 (pDr w2 fun w3 =>
 pA Tryz.prog (oNil x0) fun x14 =>
 pA Tryz.prog (oFld 254 x14 0) fun x15 =>
 pL Tryz.prog (oLoad 217 x15) w3 fun x16 =>
 pA Tryz.prog (oNil x0) fun x19 =>
 pA Tryz.prog (oFld 254 x19 0) fun x20 =>
 pL Tryz.prog (oLoad 217 x20) w3 fun x21 =>
 pA Tryz.prog (oIdx 217 x21 x1) fun x23 =>
 pL Tryz.prog (oLoad 3 x23) w3 fun x24 =>
 pN Tryz.prog (oCall 200 [x24, x2]) w3 fun x26 w4 =>
 ((Sem.run Tryz.prog (oLoad 217 x15) w4 = .ok (.value x16) w4) ∧ True) ∧ (pA Tryz.prog (oIdx 217 x16 x1) fun x27 =>
 pN Tryz.prog (oStore 3 x27 x26) w4 fun _ w5 =>
 (True) ∧ (I4 w5)))
 (I4 w2)) ∧
 ∀ (_j4 : Env) (w6 : World), I4 w6 →
 Q x10 w6
noncomputable def prob_Set_Turn.c : Code := match Tryz.f182.body with | some c => c | none => .skip
theorem prob_Set_Turn.eq [Pan] (x0 : Value) (x1 : Value) (x2 : Value) (w : World) (Q : Value → World → Prop) : cw Tryz.prog prob_Set_Turn.H prob_Set_Turn.c (endQ Tryz.prog Tryz.f182.results.toList Q) (argsE [x0, x1, x2]) w = prob_Set_Turn.F x0 x1 x2 w Q := by kernel_rfl
theorem prob_Set_Turn.calls [Pan] {x0 : Value} {x1 : Value} {x2 : Value} {w : World} {Q : Value → World → Prop} (h : prob_Set_Turn.F x0 x1 x2 w Q) : Calls Tryz.prog 182 #[x0, x1, x2] w (retP Q) :=
  calls_of_cw (H := prob_Set_Turn.H) (c := prob_Set_Turn.c) (args := [x0, x1, x2]) mixed Tryz.func182 (by kernel_rfl) (by kernel_rfl) (Nat.le_of_ble_eq_true (by kernel_rfl)) ((prob_Set_Turn.eq x0 x1 x2 w Q).mpr h)

def prob_Bound.H : Hints := { cut := fun  | _ => none, loop := fun  | _ => ([], 0), order := fun  | _ => [] }
def prob_Bound.F [Pan] (x0 : Value) (x1 : Value) (w : World) (Q : Value → World → Prop) : Prop :=
 pN Tryz.prog (oBin .shr 148 (.tmp 5) (.const (.int .u64 11)) x0 (.int .u64 11)) w fun x6 w1 =>
 pN Tryz.prog (oCall 201 [x1]) w1 fun x8 w2 =>
 pN Tryz.prog (oConv 3 148 x8) w2 fun x9 w3 =>
 pN Tryz.prog (oBin .mul 148 (.tmp 6) (.tmp 9) x6 x9) w3 fun x10 w4 =>
 Q x10 w4
noncomputable def prob_Bound.c : Code := match Tryz.f184.body with | some c => c | none => .skip
theorem prob_Bound.eq [Pan] (x0 : Value) (x1 : Value) (w : World) (Q : Value → World → Prop) : cw Tryz.prog prob_Bound.H prob_Bound.c (endQ Tryz.prog Tryz.f184.results.toList Q) (argsE [x0, x1]) w = prob_Bound.F x0 x1 w Q := by kernel_rfl
theorem prob_Bound.calls [Pan] {x0 : Value} {x1 : Value} {w : World} {Q : Value → World → Prop} (h : prob_Bound.F x0 x1 w Q) : Calls Tryz.prog 184 #[x0, x1] w (retP Q) :=
  calls_of_cw (H := prob_Bound.H) (c := prob_Bound.c) (args := [x0, x1]) mixed Tryz.func184 (by kernel_rfl) (by kernel_rfl) (Nat.le_of_ble_eq_true (by kernel_rfl)) ((prob_Bound.eq x0 x1 w Q).mpr h)

def prob_Set_has.H : Hints := { cut := fun  | _ => none, loop := fun  | _ => ([], 0), order := fun  | _ => [] }
def prob_Set_has.F [Pan] (x0 : Value) (x1 : Value) (w : World) (Q : Value → World → Prop) : Prop :=
 pN Tryz.prog (oBin .lss 3 (.tmp 5) (.const (.int .i64 0)) x1 (.int .i64 0)) w fun x6 w1 =>
 pGd (gB x6 false) (pN Tryz.prog (oMv x1) w1) w1 fun x8 w2 =>
 pGd (gB x6 false) (pN Tryz.prog (oMv x0) w2) w2 fun x9 w3 =>
 pGd (gB x6 false) (pN Tryz.prog (oNil x9) w3) w3 fun x10 w4 =>
 pGd (gB x6 false) (pN Tryz.prog (oFld 254 x10 0) w4) w4 fun x11 w5 =>
 pGd (gB x6 false) (pN Tryz.prog (oLoad 217 x11) w5) w5 fun x12 w6 =>
 pGd (gB x6 false) (pN Tryz.prog (oBi .len #[217] 3 [false] [x12]) w6) w6 fun x13 w7 =>
 pGd (gB x6 false) (pN Tryz.prog (oBin .geq 3 (.tmp 8) (.tmp 13) x8 x13) w7) w7 fun x14 w8 =>
 pN Tryz.prog (oPick x6 (.bool true) x14) w8 fun x15 w9 =>
 pIf x15
 (Q (.int .i64 7) w9)
 (Q (.int .i64 0) w9)
noncomputable def prob_Set_has.c : Code := match Tryz.f199.body with | some c => c | none => .skip
theorem prob_Set_has.eq [Pan] (x0 : Value) (x1 : Value) (w : World) (Q : Value → World → Prop) : cw Tryz.prog prob_Set_has.H prob_Set_has.c (endQ Tryz.prog Tryz.f199.results.toList Q) (argsE [x0, x1]) w = prob_Set_has.F x0 x1 w Q := by kernel_rfl
theorem prob_Set_has.calls [Pan] {x0 : Value} {x1 : Value} {w : World} {Q : Value → World → Prop} (h : prob_Set_has.F x0 x1 w Q) : Calls Tryz.prog 199 #[x0, x1] w (retP Q) :=
  calls_of_cw (H := prob_Set_has.H) (c := prob_Set_has.c) (args := [x0, x1]) mixed Tryz.func199 (by kernel_rfl) (by kernel_rfl) (Nat.le_of_ble_eq_true (by kernel_rfl)) ((prob_Set_has.eq x0 x1 w Q).mpr h)

def prob_Next.H : Hints := { cut := fun  | _ => none, loop := fun  | _ => ([], 0), order := fun  | _ => [] }
def prob_Next.F [Pan] (x0 : Value) (x1 : Value) (w : World) (Q : Value → World → Prop) : Prop :=
 pN Tryz.prog (oCall 201 [x0]) w fun x6 w1 =>
 pN Tryz.prog (oBin .eql 3 (.tmp 7) (.const (.int .i64 0)) x1 (.int .i64 0)) w1 fun x8 w2 =>
 pIf x8
 (pN Tryz.prog (oBin .sub 3 (.const (.int .i64 2048)) (.tmp 10) (.int .i64 2048) x6) w2 fun x11 w3 =>
 pN Tryz.prog (oBin .shr 3 (.tmp 11) (.const (.int .u64 5)) x11 (.int .u64 5)) w3 fun x12 w4 =>
 pN Tryz.prog (oBin .add 3 (.tmp 9) (.tmp 12) x6 x12) w4 fun x13 w5 =>
 Q x13 w5)
 (pN Tryz.prog (oBin .shr 3 (.tmp 15) (.const (.int .u64 5)) x6 (.int .u64 5)) w2 fun x16 w6 =>
 pN Tryz.prog (oBin .sub 3 (.tmp 14) (.tmp 16) x6 x16) w6 fun x17 w7 =>
 Q x17 w7)
noncomputable def prob_Next.c : Code := match Tryz.f200.body with | some c => c | none => .skip
theorem prob_Next.eq [Pan] (x0 : Value) (x1 : Value) (w : World) (Q : Value → World → Prop) : cw Tryz.prog prob_Next.H prob_Next.c (endQ Tryz.prog Tryz.f200.results.toList Q) (argsE [x0, x1]) w = prob_Next.F x0 x1 w Q := by kernel_rfl
theorem prob_Next.calls [Pan] {x0 : Value} {x1 : Value} {w : World} {Q : Value → World → Prop} (h : prob_Next.F x0 x1 w Q) : Calls Tryz.prog 200 #[x0, x1] w (retP Q) :=
  calls_of_cw (H := prob_Next.H) (c := prob_Next.c) (args := [x0, x1]) mixed Tryz.func200 (by kernel_rfl) (by kernel_rfl) (Nat.le_of_ble_eq_true (by kernel_rfl)) ((prob_Next.eq x0 x1 w Q).mpr h)

def prob_taken.H : Hints := { cut := fun  | _ => none, loop := fun  | _ => ([], 0), order := fun  | _ => [] }
def prob_taken.F [Pan] (x0 : Value) (w : World) (Q : Value → World → Prop) : Prop :=
 pN Tryz.prog (oBi .min #[3, 3] 3 [false, true] [x0, (.int .i64 2047)]) w fun x4 w1 =>
 pN Tryz.prog (oBi .max #[3, 3] 3 [true, false] [(.int .i64 0), x4]) w1 fun x5 w2 =>
 Q x5 w2
noncomputable def prob_taken.c : Code := match Tryz.f201.body with | some c => c | none => .skip
theorem prob_taken.eq [Pan] (x0 : Value) (w : World) (Q : Value → World → Prop) : cw Tryz.prog prob_taken.H prob_taken.c (endQ Tryz.prog Tryz.f201.results.toList Q) (argsE [x0]) w = prob_taken.F x0 w Q := by kernel_rfl
theorem prob_taken.calls [Pan] {x0 : Value} {w : World} {Q : Value → World → Prop} (h : prob_taken.F x0 w Q) : Calls Tryz.prog 201 #[x0] w (retP Q) :=
  calls_of_cw (H := prob_taken.H) (c := prob_taken.c) (args := [x0]) mixed Tryz.func201 (by kernel_rfl) (by kernel_rfl) (Nat.le_of_ble_eq_true (by kernel_rfl)) ((prob_taken.eq x0 w Q).mpr h)

def prob_Set_Len.H : Hints := { cut := fun  | _ => none, loop := fun  | _ => ([], 0), order := fun  | _ => [] }
def prob_Set_Len.F [Pan] (x0 : Value) (w : World) (Q : Value → World → Prop) : Prop :=
 pN Tryz.prog (oNil x0) w fun x4 w1 =>
 pN Tryz.prog (oFld 254 x4 0) w1 fun x5 w2 =>
 pN Tryz.prog (oLoad 217 x5) w2 fun x6 w3 =>
 pN Tryz.prog (oBi .len #[217] 3 [false] [x6]) w3 fun x7 w4 =>
 Q x7 w4
noncomputable def prob_Set_Len.c : Code := match Tryz.f225.body with | some c => c | none => .skip
theorem prob_Set_Len.eq [Pan] (x0 : Value) (w : World) (Q : Value → World → Prop) : cw Tryz.prog prob_Set_Len.H prob_Set_Len.c (endQ Tryz.prog Tryz.f225.results.toList Q) (argsE [x0]) w = prob_Set_Len.F x0 w Q := by kernel_rfl
theorem prob_Set_Len.calls [Pan] {x0 : Value} {w : World} {Q : Value → World → Prop} (h : prob_Set_Len.F x0 w Q) : Calls Tryz.prog 225 #[x0] w (retP Q) :=
  calls_of_cw (H := prob_Set_Len.H) (c := prob_Set_Len.c) (args := [x0]) mixed Tryz.func225 (by kernel_rfl) (by kernel_rfl) (Nat.le_of_ble_eq_true (by kernel_rfl)) ((prob_Set_Len.eq x0 w Q).mpr h)

def prob_Cost.H : Hints := { cut := fun | 4 => some ([0], 1921) | _ => none, loop := fun  | _ => ([], 0), order := fun  | _ => [] }
def prob_Cost.F [Pan] (x0 : Value) (x1 : Value) (w : World) (Q : Value → World → Prop) : Prop :=
 pN Tryz.prog (oCall 201 [x0]) w fun x6 w1 =>
 ∃ I4 : Value → World → Prop,
 (pN Tryz.prog (oBin .neq 3 (.tmp 7) (.const (.int .i64 0)) x1 (.int .i64 0)) w1 fun x8 w2 =>
 pIf x8
 (pN Tryz.prog (oBin .sub 3 (.const (.int .i64 2047)) (.tmp 9) (.int .i64 2047) x6) w2 fun x10 w3 =>
 I4 x10 w3)
 (I4 x6 w2)) ∧
 ∀ (_j4 : Env) (p0c4 : Value) (w4 : World), I4 p0c4 w4 →
 pN Tryz.prog (oBin .quo 3 (.tmp 11) (.const (.int .i64 16)) p0c4 (.int .i64 16)) w4 fun x12 w5 =>
 pN Tryz.prog (oCall 261 [x12]) w5 fun x13 w6 =>
 Q x13 w6
noncomputable def prob_Cost.c : Code := match Tryz.f258.body with | some c => c | none => .skip
theorem prob_Cost.eq [Pan] (x0 : Value) (x1 : Value) (w : World) (Q : Value → World → Prop) : cw Tryz.prog prob_Cost.H prob_Cost.c (endQ Tryz.prog Tryz.f258.results.toList Q) (argsE [x0, x1]) w = prob_Cost.F x0 x1 w Q := by kernel_rfl
theorem prob_Cost.calls [Pan] {x0 : Value} {x1 : Value} {w : World} {Q : Value → World → Prop} (h : prob_Cost.F x0 x1 w Q) : Calls Tryz.prog 258 #[x0, x1] w (retP Q) :=
  calls_of_cw (H := prob_Cost.H) (c := prob_Cost.c) (args := [x0, x1]) mixed Tryz.func258 (by kernel_rfl) (by kernel_rfl) (Nat.le_of_ble_eq_true (by kernel_rfl)) ((prob_Cost.eq x0 x1 w Q).mpr h)

def prob_costing.H : Hints := { cut := fun  | _ => none, loop := fun | 3 => ([3, 4, 8], 4194072) | 6 => ([3, 4], 2064408) | _ => ([], 0), order := fun  | _ => [] }
def prob_costing.F [Pan] (x0 : Value) (w : World) (Q : Value → World → Prop) : Prop :=
 pN Tryz.prog (oBin .mul 3 (.const (.int .i64 16)) (.tmp 5) (.int .i64 16) x0) w fun x6 w1 =>
 pN Tryz.prog (oBin .add 3 (.tmp 6) (.const (.int .i64 8)) x6 (.int .i64 8)) w1 fun x7 w2 =>
 ∃ (L3 : Value → Value → Value → World → Prop) (m3 : Value → Value → Value → World → Nat),
 L3 x7 (.int .i64 0) (.int .i64 0) w2 ∧
 ∀ (_k3 : Env) (w3l3 : Value) (c4l3 : Value) (v8l3 : Value) (w3 : World), L3 w3l3 c4l3 v8l3 w3 →
 pN Tryz.prog (oBin .lss 3 (.tmp 8) (.const (.int .i64 4)) v8l3 (.int .i64 4)) w3 fun x9 w4 =>
 pIf x9
 (pN Tryz.prog (oBin .mul 3 (.tmp 10) (.tmp 11) w3l3 w3l3) w4 fun x12 w5 =>
 pN Tryz.prog (oBin .mul 3 (.tmp 13) (.const (.int .i64 2)) c4l3 (.int .i64 2)) w5 fun x14 w6 =>
 ∃ (L6 : Value → Value → World → Prop) (m6 : Value → Value → World → Nat),
 L6 x12 x14 w6 ∧
 ∀ (_k6 : Env) (w3l6 : Value) (c4l6 : Value) (w7 : World), L6 w3l6 c4l6 w7 →
 pN Tryz.prog (oBin .geq 3 (.tmp 15) (.const (.int .i64 65536)) w3l6 (.int .i64 65536)) w7 fun x16 w8 =>
 pIf x16
 (pN Tryz.prog (oBin .quo 3 (.tmp 17) (.const (.int .i64 2)) w3l6 (.int .i64 2)) w8 fun x18 w9 =>
 pN Tryz.prog (oBin .add 3 (.tmp 19) (.const (.int .i64 1)) c4l6 (.int .i64 1)) w9 fun x20 w10 =>
 (L6 x18 x20 w10 ∧ m6 x18 x20 w10 < m6 w3l6 c4l6 w7))
 (pN Tryz.prog (oBin .add 3 (.tmp 8) (.const (.int .i64 1)) v8l3 (.int .i64 1)) w8 fun x21 w11 =>
 (L3 w3l6 c4l6 x21 w11 ∧ m3 w3l6 c4l6 x21 w11 < m3 w3l3 c4l3 v8l3 w3)))
 (pN Tryz.prog (oBin .sub 3 (.const (.int .i64 161)) (.tmp 22) (.int .i64 161) c4l3) w4 fun x23 w12 =>
 Q x23 w12)
noncomputable def prob_costing.c : Code := match Tryz.f261.body with | some c => c | none => .skip
theorem prob_costing.eq [Pan] (x0 : Value) (w : World) (Q : Value → World → Prop) : cw Tryz.prog prob_costing.H prob_costing.c (endQ Tryz.prog Tryz.f261.results.toList Q) (argsE [x0]) w = prob_costing.F x0 w Q := by kernel_rfl
theorem prob_costing.calls [Pan] {x0 : Value} {w : World} {Q : Value → World → Prop} (h : prob_costing.F x0 w Q) : Calls Tryz.prog 261 #[x0] w (retP Q) :=
  calls_of_cw (H := prob_costing.H) (c := prob_costing.c) (args := [x0]) mixed Tryz.func261 (by kernel_rfl) (by kernel_rfl) (Nat.le_of_ble_eq_true (by kernel_rfl)) ((prob_costing.eq x0 w Q).mpr h)

end Go.Proofs.YtbgnnjfpiblkmaaGreatDoor

namespace Go.Proofs.YtbgnnjfpiblkmaaGreatDoor
open Go Go.RowKit Go.ChangeShapes Go.Deep
set_option linter.unusedSimpArgs false
set_option linter.unnecessarySimpa false
set_option linter.unusedSectionVars false
set_option linter.unusedVariables false

theorem bulk_pos {H : Type} (d : DataW H) : 1 ≤ Rows.uptoBulk d := by
  cases d with
  | lit l => cases l <;> simp [Rows.uptoBulk]
  | _ => simp [Rows.uptoBulk]
theorem bulk_mem {H : Type} {d : DataW H} : ∀ {l : List (DataW H)}, d ∈ l → Rows.uptoBulk d ≤ Rows.uptoBulkAll l
  | [], h => by cases h
  | x :: r, h => by
    simp only [Rows.uptoBulkAll]
    rcases List.mem_cons.1 h with rfl | h
    · omega
    · have := bulk_mem h; omega
theorem bulk_length {H : Type} : ∀ (l : List (DataW H)), l.length ≤ Rows.uptoBulkAll l
  | [] => by simp [Rows.uptoBulkAll]
  | x :: r => by have := bulk_pos x; have := bulk_length r; simp only [Rows.uptoBulkAll, List.length_cons]; omega
theorem weights_all {H : Type} {P : Program} {e : TypeId} {d : DataW H} {n : Nat} : ∀ {l : List (DataW H)}, d ∈ l → n ∈ d.weights P e → n ∈ DataW.weightsAll P e l
  | [], h, _ => by cases h
  | x :: r, h, hn => by
    simp only [DataW.weightsAll, List.mem_append]
    rcases List.mem_cons.1 h with rfl | h
    · exact .inl hn
    · exact .inr (weights_all h hn)

structure Opn (P : Program) (W : World) (t : TypeId) {β : Type} (enc : β → List Value) (ok : β → Nat → Prop) : Prop where
  get : ∀ {H : Type} (en : TypeId × Value → H) (fuel : Nat) (cs : List Value) (x : DataW H × List MemPlace),
    DataW.trod en P W 0 (fun _ => true) true fuel t cs = some x → (∀ n ∈ x.1.weights P t, n ≤ reachBytes) → ∃ b, cs = enc b ∧ ok b (Rows.uptoBulk x.1)

section
variable {P : Program} {W : World} {t : TypeId}

theorem trod_pos {H : Type} {en : TypeId × Value → H} {fuel : Nat} {cs : List Value} {x : DataW H × List MemPlace} (h : DataW.trod en P W 0 (fun _ => true) true fuel t cs = some x) : ∃ n, fuel = n + 1 := by
  cases fuel with
  | zero => simp [DataW.trod] at h
  | succ n => exact ⟨n, rfl⟩

theorem opn_int {k : IntKind} (ht : P.underlying t = some (.int k)) : Opn P W t (fun n : Int => [.int k n]) (fun n _ => (Lit.int k n).wf = true) := by
  refine ⟨fun {H} en fuel cs x hx _ => ?_⟩
  obtain ⟨n, rfl⟩ := trod_pos hx
  unfold DataW.trod at hx
  rw [ht] at hx
  split at hx <;> simp_all
theorem Opn.mono {β : Type} {enc : β → List Value} {ok ok' : β → Nat → Prop} (h : Opn P W t enc ok) (hm : ∀ b k, ok b k → ok' b k) : Opn P W t enc ok' := by
  refine ⟨fun {H} en fuel cs x hx hw => ?_⟩
  obtain ⟨b, hb, hk⟩ := h.get en fuel cs x hx hw
  exact ⟨b, hb, hm _ _ hk⟩
theorem opn_i64 (ht : P.underlying t = some (.int .i64)) : Opn P W t (fun n : Int => [.int .i64 n]) (fun n _ => -9223372036854775808 ≤ n ∧ n < 9223372036854775808) :=
  Opn.mono (opn_int ht) fun n _ h => by
    simp [Lit.wf, IntKind.min, IntKind.max, IntKind.signed, IntKind.bits] at h
    omega
theorem opn_u8 (ht : P.underlying t = some (.int .u8)) : Opn P W t (fun n : UInt8 => [bv n]) (fun _ _ => True) := by
  refine ⟨fun {H} en fuel cs x hx hw => ?_⟩
  obtain ⟨n, rfl, h⟩ := (opn_int ht).get en fuel cs x hx hw
  simp [Lit.wf, IntKind.min, IntKind.max, IntKind.signed, IntKind.bits] at h
  refine ⟨UInt8.ofNat n.toNat, ?_, trivial⟩
  unfold bv
  simp only [UInt8.toNat_ofNat', List.cons.injEq, Value.int.injEq, true_and, and_true]
  omega
theorem opn_slice {β : Type} {C : Cd β} {ok : β → Nat → Prop} (ht : P.underlying t = some (.slice C.e)) (hs : P.cellsOf C.e = C.size) (hb : P.bytesOf C.e = C.bytes) (h : Opn P W C.e C.enc ok) :
    Opn P W t (fun p : Sl × List β => [.slice p.1.a p.2.length p.1.c])
      (fun p k => RdP C (old W) p.1 p.2 ∧ p.2.length * C.bytes ≤ reachBytes ∧ p.2.length + 1 ≤ k ∧ ∀ b ∈ p.2, ∃ k', k' ≤ k ∧ ok b k') := by
  refine ⟨fun {H} en fuel cs x hx hw => ?_⟩
  rcases open_slice ht hx with ⟨rfl, rfl⟩ | ⟨a, len, cap, m, n, D, Pl, rfl, _, hl, hm, hmm, rfl, hel⟩
  · exact ⟨(⟨none, 0⟩, []), rfl, ⟨RdA.old Rd.nil⟩, by simp, by simp [Rows.uptoBulk], by simp⟩
  · simp only [if_true] at hmm
    subst hmm
    have hwt : ∀ i, i < len → ∀ n ∈ (D i).weights P C.e, n ≤ reachBytes := by
      intro i hi n hn
      refine hw n ?_
      simp only [DataW.weights, ht, List.mem_cons, List.mem_append]
      exact .inr (.inl (weights_all (List.mem_map.2 ⟨i, by simpa using hi, rfl⟩) hn))
    have hD : ∀ i, i < len → ∃ b, (W.cells? 0 (a.add (i * C.size)) C.size = some (C.enc b)) ∧ ok b (Rows.uptoBulk (D i)) := by
      intro i hi
      obtain ⟨cs', h1, h2⟩ := hel i (by omega)
      rw [hs] at h1
      obtain ⟨b, rfl, hk⟩ := h.get en n cs' _ h2 (hwt i hi)
      exact ⟨b, h1, hk⟩
    have hinh : Inhabited β := ⟨C.zero⟩
    obtain ⟨V, hV⟩ := choose_lt hD
    have hlen : ((List.range len).map V).length = len := by simp
    have hget : ∀ i, i < len → ((List.range len).map V)[i]? = some (V i) := by intro i hi; simp [hi]
    refine ⟨(⟨some a, m⟩, (List.range len).map V), by simp, ⟨RdA.old ?_⟩, ?_, ?_, ?_⟩
    · refine ⟨C.flat_len _, some a, m, rfl, by rw [hlen]; exact hl, fun h => by simp at h, fun a' ha j u hu => ?_⟩
      cases ha
      have hj : j < (C.flat ((List.range len).map V)).length := (List.getElem?_eq_some_iff.1 hu).1
      rw [C.flat_len, hlen] at hj
      have hpos : 0 < C.size := by
        rcases Nat.eq_zero_or_pos C.size with h0 | h0
        · rw [h0] at hj; omega
        · exact h0
      have hi : j / C.size < len := by
        rw [Nat.div_lt_iff_lt_mul hpos]; exact hj
      have hr : j % C.size < C.size := Nat.mod_lt _ hpos
      have e1 : j / C.size * C.size + j % C.size = j := by rw [Nat.mul_comm]; exact Nat.div_add_mod _ _
      have e2 := C.flat_get _ _ _ (hget _ hi)
      have e3 : (C.enc (V (j / C.size)))[j % C.size]? = some u := by
        rw [← e2, List.getElem?_take, if_pos hr, List.getElem?_drop, e1]
        exact hu
      obtain ⟨_, _, h3⟩ := World.cells?_some (hV _ hi).1
      have := h3 _ hr
      rw [Addr.add_add, e1] at this
      rw [this]; exact e3
    · simp only [hlen]
      have := hw ((((List.range len).map D).length + ((List.range (m - len)).map fun j => D (len + j)).length) * P.bytesOf C.e) (by
        simp only [DataW.weights, ht]
        exact List.mem_cons_self)
      simp only [List.length_map, List.length_range, hb] at this
      exact Nat.le_trans (Nat.mul_le_mul_right _ (Nat.le_add_right _ _)) this
    · simp only [hlen, Rows.uptoBulk]
      have := bulk_length ((List.range len).map D)
      simp only [List.length_map, List.length_range] at this
      omega
    · intro b hb
      simp only [List.mem_map, List.mem_range] at hb
      obtain ⟨i, hi, rfl⟩ := hb
      refine ⟨_, ?_, (hV i hi).2⟩
      have := bulk_mem (List.mem_map.2 ⟨i, by simpa using hi, rfl⟩ : D i ∈ (List.range len).map D)
      simp only [Rows.uptoBulk]
      omega

theorem opn_field {fs : Array Field} {H : Type} {en : TypeId × Value → H} {n : Nat} {cs : List Value} {xs : List (DataW H × List MemPlace)} (ht : P.underlying t = some (.struct fs))
    (hw : ∀ n ∈ (DataW.agg (xs.map (·.1))).weights P t, n ≤ reachBytes)
    (hf : ∀ (i : Nat) (f : Field), fs[i]? = some f → DataW.trod en P W 0 (fun _ => true) true n f.type ((cs.drop f.offset).take (P.cellsOf f.type)) = xs[i]?)
    (i ft off sz : Nat) (hi' : ∃ f, fs[i]? = some f ∧ f.type = ft ∧ f.offset = off) (hc : P.cellsOf ft = sz) (hl : i < xs.length) {β : Type} {enc : β → List Value} {ok : β → Nat → Prop} (h : Opn P W ft enc ok) :
    ∃ b, (cs.drop off).take sz = enc b ∧ ∃ k', k' ≤ Rows.uptoBulk (DataW.agg (xs.map (·.1))) ∧ ok b k' := by
  obtain ⟨f, hi, rfl, rfl⟩ := hi'
  subst hc
  have h1 := hf i f hi
  rw [List.getElem?_eq_getElem hl] at h1
  obtain ⟨b, hb, hk⟩ := h.get en n _ _ h1 fun m hm => hw m (by
    simp only [DataW.weights, ht]
    exact DataW.weights_mem_each (j := i) (t := f.type) (d := xs[i].1) (by simp [hi]) (by simp [hl]) m hm)
  refine ⟨b, hb, _, ?_, hk⟩
  have := bulk_mem (List.mem_map.2 ⟨xs[i], List.getElem_mem hl, rfl⟩ : xs[i].1 ∈ xs.map (·.1))
  simp only [Rows.uptoBulk]
  omega

theorem opn_arg {β : Type} {enc : β → List Value} {ok : β → Nat → Prop} (h : Opn P W t enc ok) {H : Type} {en : TypeId × Value → H} {v : Value} {d : DataW H} {p : List MemPlace} (hd : DataW.Trod en P W 0 (fun _ => true) true t v d p)
    (hw : ∀ n ∈ d.weights P t, n ≤ reachBytes) : ∃ b, v.cells.toList = enc b ∧ ok b (Rows.uptoBulk d) := by
  obtain ⟨fuel, hf⟩ := hd
  exact h.get en fuel _ _ hf hw
end

theorem walk_end {P : Program} {f : FuncId} {args : Array Value} {W : World} (h : Calls P f args W (retP fun v w => v = .bool true ∧ Sat W w [old W])) : Calls P f args W fun e W' => e = .returned (.bool true) ∧ Below W.heap.size W W' :=
  h.mono fun e w he => by
    cases e with
    | returned v => obtain ⟨rfl, hS⟩ := he; exact ⟨rfl, hS.below 0 rfl⟩
    | panicked c => exact he.elim
    | outgrown => exact he.elim

theorem cells_agg {cs : Array Value} {l : List Value} (h : (Value.agg cs).cells.toList = l) : Value.agg cs = .agg l.toArray := by
  simp only [Value.cells] at h
  rw [← h]

end Go.Proofs.YtbgnnjfpiblkmaaGreatDoor

namespace Go.Proofs.YtbgnnjfpiblkmaaGreatDoor
open Go Go.RowKit Go.ChangeShapes
set_option linter.unusedSimpArgs false
set_option linter.unnecessarySimpa false
set_option linter.unusedSectionVars false
set_option linter.unusedVariables false

instance sc_3 : Sc Tryz.prog 3 := ⟨Tryz.isAgg3, Tryz.sizeOf3⟩
instance sc_4 : Sc Tryz.prog 4 := ⟨Tryz.isAgg4, Tryz.sizeOf4⟩
instance sc_5 : Sc Tryz.prog 5 := ⟨Tryz.isAgg5, Tryz.sizeOf5⟩
instance sc_9 : Sc Tryz.prog 9 := ⟨Tryz.isAgg9, Tryz.sizeOf9⟩
instance sc_20 : Sc Tryz.prog 20 := ⟨Tryz.isAgg20, Tryz.sizeOf20⟩
instance ag_23 : Ag Tryz.prog 23 3 := ⟨Tryz.isAgg23, Tryz.sizeOf23⟩
instance sc_30 : Sc Tryz.prog 30 := ⟨Tryz.isAgg30, Tryz.sizeOf30⟩
instance sc_37 : Sc Tryz.prog 37 := ⟨Tryz.isAgg37, Tryz.sizeOf37⟩
instance sc_38 : Sc Tryz.prog 38 := ⟨Tryz.isAgg38, Tryz.sizeOf38⟩
instance sc_41 : Sc Tryz.prog 41 := ⟨Tryz.isAgg41, Tryz.sizeOf41⟩
instance ag_48 : Ag Tryz.prog 48 4 := ⟨Tryz.isAgg48, Tryz.sizeOf48⟩
instance sc_66 : Sc Tryz.prog 66 := ⟨Tryz.isAgg66, Tryz.sizeOf66⟩
instance ag_67 : Ag Tryz.prog 67 4 := ⟨Tryz.isAgg67, Tryz.sizeOf67⟩
instance ag_69 : Ag Tryz.prog 69 5 := ⟨Tryz.isAgg69, Tryz.sizeOf69⟩
instance sc_70 : Sc Tryz.prog 70 := ⟨Tryz.isAgg70, Tryz.sizeOf70⟩
instance sc_71 : Sc Tryz.prog 71 := ⟨Tryz.isAgg71, Tryz.sizeOf71⟩
instance ag_73 : Ag Tryz.prog 73 11 := ⟨Tryz.isAgg73, Tryz.sizeOf73⟩
instance sc_75 : Sc Tryz.prog 75 := ⟨Tryz.isAgg75, Tryz.sizeOf75⟩
instance sc_76 : Sc Tryz.prog 76 := ⟨Tryz.isAgg76, Tryz.sizeOf76⟩
instance sc_77 : Sc Tryz.prog 77 := ⟨Tryz.isAgg77, Tryz.sizeOf77⟩
instance ag_79 : Ag Tryz.prog 79 12 := ⟨Tryz.isAgg79, Tryz.sizeOf79⟩
instance sc_80 : Sc Tryz.prog 80 := ⟨Tryz.isAgg80, Tryz.sizeOf80⟩
instance ag_84 : Ag Tryz.prog 84 6 := ⟨Tryz.isAgg84, Tryz.sizeOf84⟩
instance sc_85 : Sc Tryz.prog 85 := ⟨Tryz.isAgg85, Tryz.sizeOf85⟩
instance sc_92 : Sc Tryz.prog 92 := ⟨Tryz.isAgg92, Tryz.sizeOf92⟩
instance sc_97 : Sc Tryz.prog 97 := ⟨Tryz.isAgg97, Tryz.sizeOf97⟩
instance ag_100 : Ag Tryz.prog 100 5 := ⟨Tryz.isAgg100, Tryz.sizeOf100⟩
instance sc_114 : Sc Tryz.prog 114 := ⟨Tryz.isAgg114, Tryz.sizeOf114⟩
instance sc_123 : Sc Tryz.prog 123 := ⟨Tryz.isAgg123, Tryz.sizeOf123⟩
instance sc_125 : Sc Tryz.prog 125 := ⟨Tryz.isAgg125, Tryz.sizeOf125⟩
instance ag_128 : Ag Tryz.prog 128 3 := ⟨Tryz.isAgg128, Tryz.sizeOf128⟩
instance ag_136 : Ag Tryz.prog 136 1 := ⟨Tryz.isAgg136, Tryz.sizeOf136⟩
instance sc_137 : Sc Tryz.prog 137 := ⟨Tryz.isAgg137, Tryz.sizeOf137⟩
instance ag_139 : Ag Tryz.prog 139 4 := ⟨Tryz.isAgg139, Tryz.sizeOf139⟩
instance ag_141 : Ag Tryz.prog 141 26 := ⟨Tryz.isAgg141, Tryz.sizeOf141⟩
instance sc_148 : Sc Tryz.prog 148 := ⟨Tryz.isAgg148, Tryz.sizeOf148⟩
instance sc_150 : Sc Tryz.prog 150 := ⟨Tryz.isAgg150, Tryz.sizeOf150⟩
instance ag_155 : Ag Tryz.prog 155 1 := ⟨Tryz.isAgg155, Tryz.sizeOf155⟩
instance sc_156 : Sc Tryz.prog 156 := ⟨Tryz.isAgg156, Tryz.sizeOf156⟩
instance sc_169 : Sc Tryz.prog 169 := ⟨Tryz.isAgg169, Tryz.sizeOf169⟩
instance ag_171 : Ag Tryz.prog 171 3 := ⟨Tryz.isAgg171, Tryz.sizeOf171⟩
instance ag_175 : Ag Tryz.prog 175 4 := ⟨Tryz.isAgg175, Tryz.sizeOf175⟩
instance sc_180 : Sc Tryz.prog 180 := ⟨Tryz.isAgg180, Tryz.sizeOf180⟩
instance ag_182 : Ag Tryz.prog 182 4 := ⟨Tryz.isAgg182, Tryz.sizeOf182⟩
instance sc_188 : Sc Tryz.prog 188 := ⟨Tryz.isAgg188, Tryz.sizeOf188⟩
instance ag_190 : Ag Tryz.prog 190 5 := ⟨Tryz.isAgg190, Tryz.sizeOf190⟩
instance sc_197 : Sc Tryz.prog 197 := ⟨Tryz.isAgg197, Tryz.sizeOf197⟩
instance sc_217 : Sc Tryz.prog 217 := ⟨Tryz.isAgg217, Tryz.sizeOf217⟩
instance ag_219 : Ag Tryz.prog 219 2 := ⟨Tryz.isAgg219, Tryz.sizeOf219⟩
instance ag_224 : Ag Tryz.prog 224 3 := ⟨Tryz.isAgg224, Tryz.sizeOf224⟩
instance ag_226 : Ag Tryz.prog 226 4 := ⟨Tryz.isAgg226, Tryz.sizeOf226⟩
instance sc_230 : Sc Tryz.prog 230 := ⟨Tryz.isAgg230, Tryz.sizeOf230⟩
instance ag_233 : Ag Tryz.prog 233 3 := ⟨Tryz.isAgg233, Tryz.sizeOf233⟩
instance ag_234 : Ag Tryz.prog 234 12 := ⟨Tryz.isAgg234, Tryz.sizeOf234⟩
instance ag_254 : Ag Tryz.prog 254 1 := ⟨Tryz.isAgg254, Tryz.sizeOf254⟩
instance ag_272 : Ag Tryz.prog 272 4 := ⟨Tryz.isAgg272, Tryz.sizeOf272⟩
instance sc_296 : Sc Tryz.prog 296 := ⟨Tryz.isAgg296, Tryz.sizeOf296⟩
instance ag_297 : Ag Tryz.prog 297 32 := ⟨Tryz.isAgg297, Tryz.sizeOf297⟩
instance ag_298 : Ag Tryz.prog 298 64 := ⟨Tryz.isAgg298, Tryz.sizeOf298⟩
instance zv_3 : Zv Tryz.prog 3 [(.int .i64 0)] := ⟨_, Tryz.zeroValue3, rfl⟩
instance zv_4 : Zv Tryz.prog 4 [(.bool false)] := ⟨_, Tryz.zeroValue4, rfl⟩
instance zv_5 : Zv Tryz.prog 5 [(bv 0)] := ⟨_, Tryz.zeroValue5, rfl⟩
instance zv_9 : Zv Tryz.prog 9 [(.string ⟨#[]⟩)] := ⟨_, Tryz.zeroValue9, rfl⟩
instance zv_20 : Zv Tryz.prog 20 [.nilIface] := ⟨_, Tryz.zeroValue20, rfl⟩
instance zv_23 : Zv Tryz.prog 23 [(.int .i64 0), (.int .i64 0), (.int .i64 0)] := ⟨_, Tryz.zeroValue23, rfl⟩
instance zv_30 : Zv Tryz.prog 30 [(.slice none 0 0)] := ⟨_, Tryz.zeroValue30, rfl⟩
instance zv_37 : Zv Tryz.prog 37 [(.pointer none)] := ⟨_, Tryz.zeroValue37, rfl⟩
instance zv_38 : Zv Tryz.prog 38 [(.int .i64 0)] := ⟨_, Tryz.zeroValue38, rfl⟩
instance zv_41 : Zv Tryz.prog 41 [(.pointer none)] := ⟨_, Tryz.zeroValue41, rfl⟩
instance zv_48 : Zv Tryz.prog 48 [(.int .i64 0), (bv 0), (.int .i64 0), (.int .i64 0)] := ⟨_, Tryz.zeroValue48, rfl⟩
instance zv_66 : Zv Tryz.prog 66 [(.pointer none)] := ⟨_, Tryz.zeroValue66, rfl⟩
instance zv_67 : Zv Tryz.prog 67 [(.int .i64 0), (.int .i64 0), (.int .i64 0), (.int .i64 0)] := ⟨_, Tryz.zeroValue67, rfl⟩
instance zv_69 : Zv Tryz.prog 69 [(.int .i64 0), (.int .i64 0), (.int .i64 0), (.int .i64 0), (.int .i64 0)] := ⟨_, Tryz.zeroValue69, rfl⟩
instance zv_70 : Zv Tryz.prog 70 [(.map none)] := ⟨_, Tryz.zeroValue70, rfl⟩
instance zv_71 : Zv Tryz.prog 71 [(.pointer none)] := ⟨_, Tryz.zeroValue71, rfl⟩
instance zv_73 : Zv Tryz.prog 73 [(.int .i64 0), (.int .i64 0), (.int .i64 0), (.pointer none), (.int .i64 0), (.int .i64 0), (.int .i64 0), (.int .i64 0), (.int .i64 0), (.map none), (.pointer none)] := ⟨_, Tryz.zeroValue73, rfl⟩
instance zv_75 : Zv Tryz.prog 75 [(.pointer none)] := ⟨_, Tryz.zeroValue75, rfl⟩
instance zv_76 : Zv Tryz.prog 76 [(.pointer none)] := ⟨_, Tryz.zeroValue76, rfl⟩
instance zv_77 : Zv Tryz.prog 77 [(.map none)] := ⟨_, Tryz.zeroValue77, rfl⟩
instance zv_79 : Zv Tryz.prog 79 [(.pointer none), (.int .i64 0), (.int .i64 0), (.int .i64 0), (.int .i64 0), (.int .i64 0), (.int .i64 0), (.int .i64 0), (.int .i64 0), (.slice none 0 0), (.map none), (.bool false)] := ⟨_, Tryz.zeroValue79, rfl⟩
instance zv_80 : Zv Tryz.prog 80 [(.slice none 0 0)] := ⟨_, Tryz.zeroValue80, rfl⟩
instance zv_84 : Zv Tryz.prog 84 [(.int .i64 0), (.int .i64 0), (.int .i64 0), (.int .i64 0), (.slice none 0 0), (.int .i64 0)] := ⟨_, Tryz.zeroValue84, rfl⟩
instance zv_85 : Zv Tryz.prog 85 [(.pointer none)] := ⟨_, Tryz.zeroValue85, rfl⟩
instance zv_92 : Zv Tryz.prog 92 [(.slice none 0 0)] := ⟨_, Tryz.zeroValue92, rfl⟩
instance zv_97 : Zv Tryz.prog 97 [(.pointer none)] := ⟨_, Tryz.zeroValue97, rfl⟩
instance zv_100 : Zv Tryz.prog 100 [(.int .i64 0), (.int .i64 0), (.int .i64 0), (.int .i64 0), (.int .i64 0)] := ⟨_, Tryz.zeroValue100, rfl⟩
instance zv_114 : Zv Tryz.prog 114 [(.pointer none)] := ⟨_, Tryz.zeroValue114, rfl⟩
instance zv_123 : Zv Tryz.prog 123 [(.pointer none)] := ⟨_, Tryz.zeroValue123, rfl⟩
instance zv_125 : Zv Tryz.prog 125 [(.pointer none)] := ⟨_, Tryz.zeroValue125, rfl⟩
instance zv_128 : Zv Tryz.prog 128 [(.pointer none), (.pointer none), (.pointer none)] := ⟨_, Tryz.zeroValue128, rfl⟩
instance zv_136 : Zv Tryz.prog 136 [(.pointer none)] := ⟨_, Tryz.zeroValue136, rfl⟩
instance zv_137 : Zv Tryz.prog 137 [(.pointer none)] := ⟨_, Tryz.zeroValue137, rfl⟩
instance zv_139 : Zv Tryz.prog 139 [(.pointer none), (.pointer none), (.pointer none), (.pointer none)] := ⟨_, Tryz.zeroValue139, rfl⟩
instance zv_141 : Zv Tryz.prog 141 [(.int .i64 0), (.int .i64 0), (.int .i64 0), (.int .i64 0), (.int .i64 0), (.int .i64 0), (.int .i64 0), (.int .i64 0), (.pointer none), (.pointer none), (.pointer none), (.pointer none), (.pointer none), (.pointer none), (.pointer none), (.pointer none), (.pointer none), (.pointer none), (.pointer none), (.pointer none), (.pointer none), (.pointer none), (.pointer none), (.pointer none), (.pointer none), (.pointer none)] := ⟨_, Tryz.zeroValue141, rfl⟩
instance zv_148 : Zv Tryz.prog 148 [(.int .u32 0)] := ⟨_, Tryz.zeroValue148, rfl⟩
instance zv_150 : Zv Tryz.prog 150 [(.pointer none)] := ⟨_, Tryz.zeroValue150, rfl⟩
instance zv_155 : Zv Tryz.prog 155 [(.int .i64 0)] := ⟨_, Tryz.zeroValue155, rfl⟩
instance zv_156 : Zv Tryz.prog 156 [(.pointer none)] := ⟨_, Tryz.zeroValue156, rfl⟩
instance zv_169 : Zv Tryz.prog 169 [(.int .u64 0)] := ⟨_, Tryz.zeroValue169, rfl⟩
instance zv_171 : Zv Tryz.prog 171 [(.pointer none), (.pointer none), (.bool false)] := ⟨_, Tryz.zeroValue171, rfl⟩
instance zv_175 : Zv Tryz.prog 175 [(.int .i64 0), (.slice none 0 0), (.int .i64 0), (.int .i64 0)] := ⟨_, Tryz.zeroValue175, rfl⟩
instance zv_180 : Zv Tryz.prog 180 [(.pointer none)] := ⟨_, Tryz.zeroValue180, rfl⟩
instance zv_182 : Zv Tryz.prog 182 [(.pointer none), (.pointer none), (.bool false), (.bool false)] := ⟨_, Tryz.zeroValue182, rfl⟩
instance zv_188 : Zv Tryz.prog 188 [(.int .u64 0)] := ⟨_, Tryz.zeroValue188, rfl⟩
instance zv_190 : Zv Tryz.prog 190 [(.int .u64 0), (.int .u32 0), (bv 0), (.int .i64 0), (.slice none 0 0)] := ⟨_, Tryz.zeroValue190, rfl⟩
instance zv_197 : Zv Tryz.prog 197 [.nilIface] := ⟨_, Tryz.zeroValue197, rfl⟩
instance zv_217 : Zv Tryz.prog 217 [(.slice none 0 0)] := ⟨_, Tryz.zeroValue217, rfl⟩
instance zv_219 : Zv Tryz.prog 219 [(.int .i64 0), (.slice none 0 0)] := ⟨_, Tryz.zeroValue219, rfl⟩
instance zv_224 : Zv Tryz.prog 224 [(.int .i64 0), (.int .u32 0), (.int .u32 0)] := ⟨_, Tryz.zeroValue224, rfl⟩
instance zv_226 : Zv Tryz.prog 226 [(.slice none 0 0), (.int .i64 0), (.int .u32 0), (.int .u32 0)] := ⟨_, Tryz.zeroValue226, rfl⟩
instance zv_230 : Zv Tryz.prog 230 [(.pointer none)] := ⟨_, Tryz.zeroValue230, rfl⟩
instance zv_233 : Zv Tryz.prog 233 [(.pointer none), (.pointer none), (.bool false)] := ⟨_, Tryz.zeroValue233, rfl⟩
instance zv_234 : Zv Tryz.prog 234 [(.int .i64 0), (.int .i64 0), (.int .i64 0), (.int .i64 0), (.int .i64 0), (.int .i64 0), (.int .i64 0), (.int .i64 0), (.int .i64 0), (.int .i64 0), (.int .i64 0), (.int .i64 0)] := ⟨_, Tryz.zeroValue234, rfl⟩
instance zv_254 : Zv Tryz.prog 254 [(.slice none 0 0)] := ⟨_, Tryz.zeroValue254, rfl⟩
instance zv_272 : Zv Tryz.prog 272 [(.slice none 0 0), (.int .i64 0), (.int .i64 0), (.int .i64 0)] := ⟨_, Tryz.zeroValue272, rfl⟩
instance zv_296 : Zv Tryz.prog 296 [.nilFunc] := ⟨_, Tryz.zeroValue296, rfl⟩
instance zv_297 : Zv Tryz.prog 297 [(bv 0), (bv 0), (bv 0), (bv 0), (bv 0), (bv 0), (bv 0), (bv 0), (bv 0), (bv 0), (bv 0), (bv 0), (bv 0), (bv 0), (bv 0), (bv 0), (bv 0), (bv 0), (bv 0), (bv 0), (bv 0), (bv 0), (bv 0), (bv 0), (bv 0), (bv 0), (bv 0), (bv 0), (bv 0), (bv 0), (bv 0), (bv 0)] := ⟨_, Tryz.zeroValue297, rfl⟩
structure T_api_Props where
  LC : Int
  LP : Int
  PB : Int
def T_api_Props.zero : T_api_Props := ⟨0, 0, 0⟩
def T_api_Props.enc (b : T_api_Props) : List Value := [.int .i64 b.LC, .int .i64 b.LP, .int .i64 b.PB]
structure T_api_Symbol where
  Kind : Int
  Byte : UInt8
  Len : Int
  Dist : Int
def T_api_Symbol.zero : T_api_Symbol := ⟨0, 0, 0, 0⟩
def T_api_Symbol.enc (b : T_api_Symbol) : List Value := [.int .i64 b.Kind, bv b.Byte, .int .i64 b.Len, .int .i64 b.Dist]
structure T_pithlaw15_Quest where
  f_P : T_api_Props
  Dict : Int
  B : (Sl × List UInt8)
  N : Int
def T_pithlaw15_Quest.zero : T_pithlaw15_Quest := ⟨T_api_Props.zero, 0, (⟨none, 0⟩, []), 0⟩
def T_pithlaw15_Quest.enc (b : T_pithlaw15_Quest) : List Value := b.f_P.enc ++ [.int .i64 b.Dict] ++ [.slice b.B.1.a b.B.2.length b.B.1.c] ++ [.int .i64 b.N]
def cd_int : Cd Int := { e := 3, size := 1, bytes := 8, zero := 0, enc := fun b => [.int .i64 b], len := fun _ => rfl, one := by intro b u hu; simp only [List.mem_cons, List.not_mem_nil, or_false] at hu; subst hu; rfl }
instance bt_int : Bt cd_int 8 := ⟨rfl⟩
def cd_uint8 : Cd UInt8 := { e := 5, size := 1, bytes := 1, zero := 0, enc := fun b => [bv b], len := fun _ => rfl, one := by intro b u hu; simp only [List.mem_cons, List.not_mem_nil, or_false] at hu; subst hu; rfl }
instance bt_uint8 : Bt cd_uint8 1 := ⟨rfl⟩
def cd_api_Props : Cd T_api_Props := { e := 23, size := 3, bytes := 24, zero := T_api_Props.zero, enc := T_api_Props.enc, len := fun _ => rfl, one := by intro b u hu; simp only [T_api_Props.enc, T_api_Symbol.enc, T_pithlaw15_Quest.enc, List.mem_cons, List.mem_append, List.not_mem_nil, or_false] at hu; rcases hu with rfl|rfl|rfl <;> rfl }
instance bt_api_Props : Bt cd_api_Props 24 := ⟨rfl⟩
def cd_sl_uint8 : Cd (Sl × List UInt8) := { e := 30, size := 1, bytes := 24, zero := (⟨none, 0⟩, []), enc := fun b => [.slice b.1.a b.2.length b.1.c], len := fun _ => rfl, one := by intro b u hu; simp only [List.mem_cons, List.not_mem_nil, or_false] at hu; subst hu; rfl }
instance bt_sl_uint8 : Bt cd_sl_uint8 24 := ⟨rfl⟩
def cd_api_Symbol : Cd T_api_Symbol := { e := 48, size := 4, bytes := 32, zero := T_api_Symbol.zero, enc := T_api_Symbol.enc, len := fun _ => rfl, one := by intro b u hu; simp only [T_api_Props.enc, T_api_Symbol.enc, T_pithlaw15_Quest.enc, List.mem_cons, List.mem_append, List.not_mem_nil, or_false] at hu; rcases hu with rfl|rfl|rfl|rfl <;> rfl }
instance bt_api_Symbol : Bt cd_api_Symbol 32 := ⟨rfl⟩
def cd_pithlaw15_Quest : Cd T_pithlaw15_Quest := { e := 84, size := 6, bytes := 64, zero := T_pithlaw15_Quest.zero, enc := T_pithlaw15_Quest.enc, len := fun _ => rfl, one := by intro b u hu; simp only [T_api_Props.enc, T_api_Symbol.enc, T_pithlaw15_Quest.enc, List.mem_cons, List.mem_append, List.not_mem_nil, or_false] at hu; repeat (first | (subst hu; rfl) | (rcases hu with hu | hu)) }
instance bt_pithlaw15_Quest : Bt cd_pithlaw15_Quest 64 := ⟨rfl⟩
instance row_30 : Row Tryz.prog 30 UInt8 cd_uint8 := ⟨⟨(.int .u8 0), ⟨Tryz.underlying30, info_parts (by kernel_rfl), rfl, by decide⟩, rfl⟩, by decide⟩
instance row_80 : Row Tryz.prog 80 T_api_Symbol cd_api_Symbol := ⟨⟨(.agg #[(.int .i64 0), (.int .u8 0), (.int .i64 0), (.int .i64 0)]), ⟨Tryz.underlying80, info_parts (by kernel_rfl), rfl, by decide⟩, rfl⟩, by decide⟩
instance row_92 : Row Tryz.prog 92 (Sl × List UInt8) cd_sl_uint8 := ⟨⟨(.slice none 0 0), ⟨Tryz.underlying92, info_parts (by kernel_rfl), rfl, by decide⟩, rfl⟩, by decide⟩
instance row_217 : Row Tryz.prog 217 Int cd_int := ⟨⟨(.int .i64 0), ⟨Tryz.underlying217, info_parts (by kernel_rfl), rfl, by decide⟩, rfl⟩, by decide⟩
section
variable [Pan] {w : World} {K : Value → World → Prop} {J : Value → Prop}
instance fa_23_0 : FA Tryz.prog 23 0 0 := ⟨fun a w => by kernel_rfl⟩
instance fa_23_1 : FA Tryz.prog 23 1 1 := ⟨fun a w => by kernel_rfl⟩
instance fa_23_2 : FA Tryz.prog 23 2 2 := ⟨fun a w => by kernel_rfl⟩
instance fa_48_0 : FA Tryz.prog 48 0 0 := ⟨fun a w => by kernel_rfl⟩
instance fa_48_1 : FA Tryz.prog 48 1 1 := ⟨fun a w => by kernel_rfl⟩
instance fa_48_2 : FA Tryz.prog 48 2 2 := ⟨fun a w => by kernel_rfl⟩
instance fa_48_3 : FA Tryz.prog 48 3 3 := ⟨fun a w => by kernel_rfl⟩
instance fa_73_3 : FA Tryz.prog 73 3 9 := ⟨fun a w => by kernel_rfl⟩
instance fa_79_0 : FA Tryz.prog 79 0 0 := ⟨fun a w => by kernel_rfl⟩
instance fa_79_5 : FA Tryz.prog 79 5 10 := ⟨fun a w => by kernel_rfl⟩
instance fa_79_6 : FA Tryz.prog 79 6 11 := ⟨fun a w => by kernel_rfl⟩
instance fa_84_0 : FA Tryz.prog 84 0 0 := ⟨fun a w => by kernel_rfl⟩
instance fa_84_1 : FA Tryz.prog 84 1 3 := ⟨fun a w => by kernel_rfl⟩
instance fa_84_2 : FA Tryz.prog 84 2 4 := ⟨fun a w => by kernel_rfl⟩
instance fa_84_3 : FA Tryz.prog 84 3 5 := ⟨fun a w => by kernel_rfl⟩
instance fa_100_0 : FA Tryz.prog 100 0 0 := ⟨fun a w => by kernel_rfl⟩
instance fa_100_1 : FA Tryz.prog 100 1 1 := ⟨fun a w => by kernel_rfl⟩
instance fa_128_0 : FA Tryz.prog 128 0 0 := ⟨fun a w => by kernel_rfl⟩
instance fa_128_1 : FA Tryz.prog 128 1 1 := ⟨fun a w => by kernel_rfl⟩
instance fa_128_2 : FA Tryz.prog 128 2 2 := ⟨fun a w => by kernel_rfl⟩
instance fa_136_0 : FA Tryz.prog 136 0 0 := ⟨fun a w => by kernel_rfl⟩
instance fa_139_0 : FA Tryz.prog 139 0 0 := ⟨fun a w => by kernel_rfl⟩
instance fa_139_1 : FA Tryz.prog 139 1 1 := ⟨fun a w => by kernel_rfl⟩
instance fa_139_2 : FA Tryz.prog 139 2 2 := ⟨fun a w => by kernel_rfl⟩
instance fa_139_3 : FA Tryz.prog 139 3 3 := ⟨fun a w => by kernel_rfl⟩
instance fa_141_0 : FA Tryz.prog 141 0 0 := ⟨fun a w => by kernel_rfl⟩
instance fa_141_1 : FA Tryz.prog 141 1 3 := ⟨fun a w => by kernel_rfl⟩
instance fa_141_2 : FA Tryz.prog 141 2 8 := ⟨fun a w => by kernel_rfl⟩
instance fa_141_3 : FA Tryz.prog 141 3 9 := ⟨fun a w => by kernel_rfl⟩
instance fa_141_4 : FA Tryz.prog 141 4 10 := ⟨fun a w => by kernel_rfl⟩
instance fa_141_5 : FA Tryz.prog 141 5 11 := ⟨fun a w => by kernel_rfl⟩
instance fa_141_6 : FA Tryz.prog 141 6 12 := ⟨fun a w => by kernel_rfl⟩
instance fa_141_7 : FA Tryz.prog 141 7 13 := ⟨fun a w => by kernel_rfl⟩
instance fa_141_8 : FA Tryz.prog 141 8 14 := ⟨fun a w => by kernel_rfl⟩
instance fa_141_9 : FA Tryz.prog 141 9 15 := ⟨fun a w => by kernel_rfl⟩
instance fa_141_10 : FA Tryz.prog 141 10 19 := ⟨fun a w => by kernel_rfl⟩
instance fa_141_11 : FA Tryz.prog 141 11 23 := ⟨fun a w => by kernel_rfl⟩
instance fa_141_12 : FA Tryz.prog 141 12 24 := ⟨fun a w => by kernel_rfl⟩
instance fa_141_13 : FA Tryz.prog 141 13 25 := ⟨fun a w => by kernel_rfl⟩
instance fa_155_0 : FA Tryz.prog 155 0 0 := ⟨fun a w => by kernel_rfl⟩
instance fa_171_0 : FA Tryz.prog 171 0 0 := ⟨fun a w => by kernel_rfl⟩
instance fa_171_1 : FA Tryz.prog 171 1 1 := ⟨fun a w => by kernel_rfl⟩
instance fa_171_2 : FA Tryz.prog 171 2 2 := ⟨fun a w => by kernel_rfl⟩
instance fa_175_0 : FA Tryz.prog 175 0 0 := ⟨fun a w => by kernel_rfl⟩
instance fa_175_1 : FA Tryz.prog 175 1 1 := ⟨fun a w => by kernel_rfl⟩
instance fa_175_2 : FA Tryz.prog 175 2 2 := ⟨fun a w => by kernel_rfl⟩
instance fa_175_3 : FA Tryz.prog 175 3 3 := ⟨fun a w => by kernel_rfl⟩
instance fa_182_0 : FA Tryz.prog 182 0 0 := ⟨fun a w => by kernel_rfl⟩
instance fa_182_1 : FA Tryz.prog 182 1 1 := ⟨fun a w => by kernel_rfl⟩
instance fa_182_2 : FA Tryz.prog 182 2 2 := ⟨fun a w => by kernel_rfl⟩
instance fa_190_0 : FA Tryz.prog 190 0 0 := ⟨fun a w => by kernel_rfl⟩
instance fa_190_1 : FA Tryz.prog 190 1 1 := ⟨fun a w => by kernel_rfl⟩
instance fa_190_2 : FA Tryz.prog 190 2 2 := ⟨fun a w => by kernel_rfl⟩
instance fa_190_3 : FA Tryz.prog 190 3 3 := ⟨fun a w => by kernel_rfl⟩
instance fa_190_4 : FA Tryz.prog 190 4 4 := ⟨fun a w => by kernel_rfl⟩
instance fa_219_1 : FA Tryz.prog 219 1 1 := ⟨fun a w => by kernel_rfl⟩
instance fa_224_0 : FA Tryz.prog 224 0 0 := ⟨fun a w => by kernel_rfl⟩
instance fa_224_1 : FA Tryz.prog 224 1 1 := ⟨fun a w => by kernel_rfl⟩
instance fa_224_2 : FA Tryz.prog 224 2 2 := ⟨fun a w => by kernel_rfl⟩
instance fa_226_0 : FA Tryz.prog 226 0 0 := ⟨fun a w => by kernel_rfl⟩
instance fa_226_1 : FA Tryz.prog 226 1 1 := ⟨fun a w => by kernel_rfl⟩
instance fa_233_0 : FA Tryz.prog 233 0 0 := ⟨fun a w => by kernel_rfl⟩
instance fa_233_1 : FA Tryz.prog 233 1 1 := ⟨fun a w => by kernel_rfl⟩
instance fa_233_2 : FA Tryz.prog 233 2 2 := ⟨fun a w => by kernel_rfl⟩
instance fa_254_0 : FA Tryz.prog 254 0 0 := ⟨fun a w => by kernel_rfl⟩
instance fa_272_0 : FA Tryz.prog 272 0 0 := ⟨fun a w => by kernel_rfl⟩
instance fa_272_1 : FA Tryz.prog 272 1 1 := ⟨fun a w => by kernel_rfl⟩
instance fa_272_2 : FA Tryz.prog 272 2 2 := ⟨fun a w => by kernel_rfl⟩
instance fa_272_3 : FA Tryz.prog 272 3 3 := ⟨fun a w => by kernel_rfl⟩
instance tob_3_5 : ToB Tryz.prog 3 5 := ⟨fun _ k n => run_conv_int k Tryz.underlying3 Tryz.underlying5 n⟩
instance ofb_5_3 : OfB Tryz.prog 5 3 .i64 := ⟨fun _ k n => run_conv_int k Tryz.underlying5 Tryz.underlying3 n, fun n h1 h2 => wrap_i64 (by omega)⟩
instance ofb_5_148 : OfB Tryz.prog 5 148 .u32 := ⟨fun _ k n => run_conv_int k Tryz.underlying5 Tryz.underlying148 n, fun n h1 h2 => w_u32 (by omega)⟩
instance strt_30_9 : StrT Tryz.prog 30 9 cd_uint8 := ⟨⟨_, Tryz.underlying30, Tryz.underlying5⟩, Tryz.underlying9, rfl, fun _ => rfl⟩
instance tob_148_5 : ToB Tryz.prog 148 5 := ⟨fun _ k n => run_conv_int k Tryz.underlying148 Tryz.underlying5 n⟩
instance tob_188_5 : ToB Tryz.prog 188 5 := ⟨fun _ k n => run_conv_int k Tryz.underlying188 Tryz.underlying5 n⟩
theorem pN_shl_3_u64_4 (xo yo : Operand) (a : Int) : pN Tryz.prog (oBin .shl 3 xo yo (.int .i64 a) (.int .u64 4)) w K = K (.int .i64 (IntKind.wrap .i64 (a * 16))) w := pN_shln 4 4 16 rfl (by decide) (by decide)
theorem pA_shl_3_u64_4 (xo yo : Operand) (a : Int) : pA Tryz.prog (oBin .shl 3 xo yo (.int .i64 a) (.int .u64 4)) J = J (.int .i64 (IntKind.wrap .i64 (a * 16))) := pA_shln 4 4 16 rfl (by decide) (by decide)
theorem pN_shl_148_u64_1 (xo yo : Operand) (a : Int) : pN Tryz.prog (oBin .shl 148 xo yo (.int .u32 a) (.int .u64 1)) w K = K (.int .u32 (IntKind.wrap .u32 (a * 2))) w := pN_shln 1 1 2 rfl (by decide) (by decide)
theorem pA_shl_148_u64_1 (xo yo : Operand) (a : Int) : pA Tryz.prog (oBin .shl 148 xo yo (.int .u32 a) (.int .u64 1)) J = J (.int .u32 (IntKind.wrap .u32 (a * 2))) := pA_shln 1 1 2 rfl (by decide) (by decide)
theorem pN_shl_148_u64_8 (xo yo : Operand) (a : Int) : pN Tryz.prog (oBin .shl 148 xo yo (.int .u32 a) (.int .u64 8)) w K = K (.int .u32 (IntKind.wrap .u32 (a * 256))) w := pN_shln 8 8 256 rfl (by decide) (by decide)
theorem pA_shl_148_u64_8 (xo yo : Operand) (a : Int) : pA Tryz.prog (oBin .shl 148 xo yo (.int .u32 a) (.int .u64 8)) J = J (.int .u32 (IntKind.wrap .u32 (a * 256))) := pA_shln 8 8 256 rfl (by decide) (by decide)
theorem pN_shl_188_u64_8 (xo yo : Operand) (a : Int) : pN Tryz.prog (oBin .shl 188 xo yo (.int .u64 a) (.int .u64 8)) w K = K (.int .u64 (IntKind.wrap .u64 (a * 256))) w := pN_shln 8 8 256 rfl (by decide) (by decide)
theorem pA_shl_188_u64_8 (xo yo : Operand) (a : Int) : pA Tryz.prog (oBin .shl 188 xo yo (.int .u64 a) (.int .u64 8)) J = J (.int .u64 (IntKind.wrap .u64 (a * 256))) := pA_shln 8 8 256 rfl (by decide) (by decide)
theorem pN_shr_3_u64_3 (xo yo : Operand) (a : Int) : pN Tryz.prog (oBin .shr 3 xo yo (.int .i64 a) (.int .u64 3)) w K = K (.int .i64 (a / 8)) w := pN_shrn 3 3 8 rfl (by decide) (by decide)
theorem pA_shr_3_u64_3 (xo yo : Operand) (a : Int) : pA Tryz.prog (oBin .shr 3 xo yo (.int .i64 a) (.int .u64 3)) J = J (.int .i64 (a / 8)) := pA_shrn 3 3 8 rfl (by decide) (by decide)
theorem pN_shr_3_u64_4 (xo yo : Operand) (a : Int) : pN Tryz.prog (oBin .shr 3 xo yo (.int .i64 a) (.int .u64 4)) w K = K (.int .i64 (a / 16)) w := pN_shrn 4 4 16 rfl (by decide) (by decide)
theorem pA_shr_3_u64_4 (xo yo : Operand) (a : Int) : pA Tryz.prog (oBin .shr 3 xo yo (.int .i64 a) (.int .u64 4)) J = J (.int .i64 (a / 16)) := pA_shrn 4 4 16 rfl (by decide) (by decide)
theorem pN_shr_3_u64_5 (xo yo : Operand) (a : Int) : pN Tryz.prog (oBin .shr 3 xo yo (.int .i64 a) (.int .u64 5)) w K = K (.int .i64 (a / 32)) w := pN_shrn 5 5 32 rfl (by decide) (by decide)
theorem pA_shr_3_u64_5 (xo yo : Operand) (a : Int) : pA Tryz.prog (oBin .shr 3 xo yo (.int .i64 a) (.int .u64 5)) J = J (.int .i64 (a / 32)) := pA_shrn 5 5 32 rfl (by decide) (by decide)
theorem pN_shr_148_u64_11 (xo yo : Operand) (a : Int) : pN Tryz.prog (oBin .shr 148 xo yo (.int .u32 a) (.int .u64 11)) w K = K (.int .u32 (a / 2048)) w := pN_shrn 11 11 2048 rfl (by decide) (by decide)
theorem pA_shr_148_u64_11 (xo yo : Operand) (a : Int) : pA Tryz.prog (oBin .shr 148 xo yo (.int .u32 a) (.int .u64 11)) J = J (.int .u32 (a / 2048)) := pA_shrn 11 11 2048 rfl (by decide) (by decide)
theorem pN_shr_148_u64_16 (xo yo : Operand) (a : Int) : pN Tryz.prog (oBin .shr 148 xo yo (.int .u32 a) (.int .u64 16)) w K = K (.int .u32 (a / 65536)) w := pN_shrn 16 16 65536 rfl (by decide) (by decide)
theorem pA_shr_148_u64_16 (xo yo : Operand) (a : Int) : pA Tryz.prog (oBin .shr 148 xo yo (.int .u32 a) (.int .u64 16)) J = J (.int .u32 (a / 65536)) := pA_shrn 16 16 65536 rfl (by decide) (by decide)
theorem pN_shr_148_u64_27 (xo yo : Operand) (a : Int) : pN Tryz.prog (oBin .shr 148 xo yo (.int .u32 a) (.int .u64 27)) w K = K (.int .u32 (a / 134217728)) w := pN_shrn 27 27 134217728 rfl (by decide) (by decide)
theorem pA_shr_148_u64_27 (xo yo : Operand) (a : Int) : pA Tryz.prog (oBin .shr 148 xo yo (.int .u32 a) (.int .u64 27)) J = J (.int .u32 (a / 134217728)) := pA_shrn 27 27 134217728 rfl (by decide) (by decide)
theorem pN_shr_148_u64_8 (xo yo : Operand) (a : Int) : pN Tryz.prog (oBin .shr 148 xo yo (.int .u32 a) (.int .u64 8)) w K = K (.int .u32 (a / 256)) w := pN_shrn 8 8 256 rfl (by decide) (by decide)
theorem pA_shr_148_u64_8 (xo yo : Operand) (a : Int) : pA Tryz.prog (oBin .shr 148 xo yo (.int .u32 a) (.int .u64 8)) J = J (.int .u32 (a / 256)) := pA_shrn 8 8 256 rfl (by decide) (by decide)
theorem pN_shr_188_u64_16 (xo yo : Operand) (a : Int) : pN Tryz.prog (oBin .shr 188 xo yo (.int .u64 a) (.int .u64 16)) w K = K (.int .u64 (a / 65536)) w := pN_shrn 16 16 65536 rfl (by decide) (by decide)
theorem pA_shr_188_u64_16 (xo yo : Operand) (a : Int) : pA Tryz.prog (oBin .shr 188 xo yo (.int .u64 a) (.int .u64 16)) J = J (.int .u64 (a / 65536)) := pA_shrn 16 16 65536 rfl (by decide) (by decide)
theorem pN_shr_188_u64_24 (xo yo : Operand) (a : Int) : pN Tryz.prog (oBin .shr 188 xo yo (.int .u64 a) (.int .u64 24)) w K = K (.int .u64 (a / 16777216)) w := pN_shrn 24 24 16777216 rfl (by decide) (by decide)
theorem pA_shr_188_u64_24 (xo yo : Operand) (a : Int) : pA Tryz.prog (oBin .shr 188 xo yo (.int .u64 a) (.int .u64 24)) J = J (.int .u64 (a / 16777216)) := pA_shrn 24 24 16777216 rfl (by decide) (by decide)
theorem pN_shr_188_u64_32 (xo yo : Operand) (a : Int) : pN Tryz.prog (oBin .shr 188 xo yo (.int .u64 a) (.int .u64 32)) w K = K (.int .u64 (a / 4294967296)) w := pN_shrn 32 32 4294967296 rfl (by decide) (by decide)
theorem pA_shr_188_u64_32 (xo yo : Operand) (a : Int) : pA Tryz.prog (oBin .shr 188 xo yo (.int .u64 a) (.int .u64 32)) J = J (.int .u64 (a / 4294967296)) := pA_shrn 32 32 4294967296 rfl (by decide) (by decide)
theorem pN_shr_188_u64_58 (xo yo : Operand) (a : Int) : pN Tryz.prog (oBin .shr 188 xo yo (.int .u64 a) (.int .u64 58)) w K = K (.int .u64 (a / 288230376151711744)) w := pN_shrn 58 58 288230376151711744 rfl (by decide) (by decide)
theorem pA_shr_188_u64_58 (xo yo : Operand) (a : Int) : pA Tryz.prog (oBin .shr 188 xo yo (.int .u64 a) (.int .u64 58)) J = J (.int .u64 (a / 288230376151711744)) := pA_shrn 58 58 288230376151711744 rfl (by decide) (by decide)
theorem pN_shr_188_u64_8 (xo yo : Operand) (a : Int) : pN Tryz.prog (oBin .shr 188 xo yo (.int .u64 a) (.int .u64 8)) w K = K (.int .u64 (a / 256)) w := pN_shrn 8 8 256 rfl (by decide) (by decide)
theorem pA_shr_188_u64_8 (xo yo : Operand) (a : Int) : pA Tryz.prog (oBin .shr 188 xo yo (.int .u64 a) (.int .u64 8)) J = J (.int .u64 (a / 256)) := pA_shrn 8 8 256 rfl (by decide) (by decide)
theorem pN_and_3_1 (xo yo : Operand) (a : Int) : pN Tryz.prog (oBin .and 3 xo yo (.int .i64 a) (.int .i64 1)) w K = K (.int .i64 (a % 2)) w := pN_andn 1 1 2 rfl rfl (by decide) (wrap_i64 (by omega))
theorem pA_and_3_1 (xo yo : Operand) (a : Int) : pA Tryz.prog (oBin .and 3 xo yo (.int .i64 a) (.int .i64 1)) J = J (.int .i64 (a % 2)) := pA_andn 1 1 2 rfl rfl (by decide) (wrap_i64 (by omega))
theorem pN_and_3_15 (xo yo : Operand) (a : Int) : pN Tryz.prog (oBin .and 3 xo yo (.int .i64 a) (.int .i64 15)) w K = K (.int .i64 (a % 16)) w := pN_andn 4 15 16 rfl rfl (by decide) (wrap_i64 (by omega))
theorem pA_and_3_15 (xo yo : Operand) (a : Int) : pA Tryz.prog (oBin .and 3 xo yo (.int .i64 a) (.int .i64 15)) J = J (.int .i64 (a % 16)) := pA_andn 4 15 16 rfl rfl (by decide) (wrap_i64 (by omega))
theorem pN_and_148_1 (xo yo : Operand) (a : Int) : pN Tryz.prog (oBin .and 148 xo yo (.int .u32 a) (.int .u32 1)) w K = K (.int .u32 (a % 2)) w := pN_andn 1 1 2 rfl rfl (by decide) (w_u32 (by omega))
theorem pA_and_148_1 (xo yo : Operand) (a : Int) : pA Tryz.prog (oBin .and 148 xo yo (.int .u32 a) (.int .u32 1)) J = J (.int .u32 (a % 2)) := pA_andn 1 1 2 rfl rfl (by decide) (w_u32 (by omega))
theorem pN_and_169_1 (xo yo : Operand) (a : Int) : pN Tryz.prog (oBin .and 169 xo yo (.int .u64 a) (.int .u64 1)) w K = K (.int .u64 (a % 2)) w := pN_andn 1 1 2 rfl rfl (by decide) (w_u64 (by omega))
theorem pA_and_169_1 (xo yo : Operand) (a : Int) : pA Tryz.prog (oBin .and 169 xo yo (.int .u64 a) (.int .u64 1)) J = J (.int .u64 (a % 2)) := pA_andn 1 1 2 rfl rfl (by decide) (w_u64 (by omega))
theorem pN_and_188_16777215 (xo yo : Operand) (a : Int) : pN Tryz.prog (oBin .and 188 xo yo (.int .u64 a) (.int .u64 16777215)) w K = K (.int .u64 (a % 16777216)) w := pN_andn 24 16777215 16777216 rfl rfl (by decide) (w_u64 (by omega))
theorem pA_and_188_16777215 (xo yo : Operand) (a : Int) : pA Tryz.prog (oBin .and 188 xo yo (.int .u64 a) (.int .u64 16777215)) J = J (.int .u64 (a % 16777216)) := pA_andn 24 16777215 16777216 rfl rfl (by decide) (w_u64 (by omega))
theorem run_bld_23_  (w : World) : (oBuild 23 []).run Tryz.prog w = .ok (.value (.agg #[(.int .i64 0), (.int .i64 0), (.int .i64 0)])) w := by kernel_rfl
theorem pN_bld_23_  : pN Tryz.prog (oBuild 23 []) w K = K (.agg #[(.int .i64 0), (.int .i64 0), (.int .i64 0)]) w := by rw [pN_def, run_bld_23_, rN_value]
theorem run_bld_23_0_2 (x0 : Int) (x2 : Int) (w : World) : (oBuild 23 [(0, .int .i64 x0), (2, .int .i64 x2)]).run Tryz.prog w = .ok (.value (.agg #[(.int .i64 x0), (.int .i64 0), (.int .i64 x2)])) w := by kernel_rfl
theorem pN_bld_23_0_2 (x0 : Int) (x2 : Int) : pN Tryz.prog (oBuild 23 [(0, .int .i64 x0), (2, .int .i64 x2)]) w K = K (.agg #[(.int .i64 x0), (.int .i64 0), (.int .i64 x2)]) w := by rw [pN_def, run_bld_23_0_2, rN_value]
theorem run_bld_48_0 (x0 : Int) (w : World) : (oBuild 48 [(0, .int .i64 x0)]).run Tryz.prog w = .ok (.value (.agg #[(.int .i64 x0), (bv 0), (.int .i64 0), (.int .i64 0)])) w := by kernel_rfl
theorem pN_bld_48_0 (x0 : Int) : pN Tryz.prog (oBuild 48 [(0, .int .i64 x0)]) w K = K (.agg #[(.int .i64 x0), (bv 0), (.int .i64 0), (.int .i64 0)]) w := by rw [pN_def, run_bld_48_0, rN_value]
theorem run_bld_48_0_1 (x0 : Int) (x1 : UInt8) (w : World) : (oBuild 48 [(0, .int .i64 x0), (1, bv x1)]).run Tryz.prog w = .ok (.value (.agg #[(.int .i64 x0), (bv x1), (.int .i64 0), (.int .i64 0)])) w := by kernel_rfl
theorem pN_bld_48_0_1 (x0 : Int) (x1 : UInt8) : pN Tryz.prog (oBuild 48 [(0, .int .i64 x0), (1, bv x1)]) w K = K (.agg #[(.int .i64 x0), (bv x1), (.int .i64 0), (.int .i64 0)]) w := by rw [pN_def, run_bld_48_0_1, rN_value]
theorem run_bld_48_0_2 (x0 : Int) (x2 : Int) (w : World) : (oBuild 48 [(0, .int .i64 x0), (2, .int .i64 x2)]).run Tryz.prog w = .ok (.value (.agg #[(.int .i64 x0), (bv 0), (.int .i64 x2), (.int .i64 0)])) w := by kernel_rfl
theorem pN_bld_48_0_2 (x0 : Int) (x2 : Int) : pN Tryz.prog (oBuild 48 [(0, .int .i64 x0), (2, .int .i64 x2)]) w K = K (.agg #[(.int .i64 x0), (bv 0), (.int .i64 x2), (.int .i64 0)]) w := by rw [pN_def, run_bld_48_0_2, rN_value]
theorem run_bld_48_0_2_3 (x0 : Int) (x2 : Int) (x3 : Int) (w : World) : (oBuild 48 [(0, .int .i64 x0), (2, .int .i64 x2), (3, .int .i64 x3)]).run Tryz.prog w = .ok (.value (.agg #[(.int .i64 x0), (bv 0), (.int .i64 x2), (.int .i64 x3)])) w := by kernel_rfl
theorem pN_bld_48_0_2_3 (x0 : Int) (x2 : Int) (x3 : Int) : pN Tryz.prog (oBuild 48 [(0, .int .i64 x0), (2, .int .i64 x2), (3, .int .i64 x3)]) w K = K (.agg #[(.int .i64 x0), (bv 0), (.int .i64 x2), (.int .i64 x3)]) w := by rw [pN_def, run_bld_48_0_2_3, rN_value]
theorem run_bld_100_  (w : World) : (oBuild 100 []).run Tryz.prog w = .ok (.value (.agg #[(.int .i64 0), (.int .i64 0), (.int .i64 0), (.int .i64 0), (.int .i64 0)])) w := by kernel_rfl
theorem pN_bld_100_  : pN Tryz.prog (oBuild 100 []) w K = K (.agg #[(.int .i64 0), (.int .i64 0), (.int .i64 0), (.int .i64 0), (.int .i64 0)]) w := by rw [pN_def, run_bld_100_, rN_value]
theorem run_bld_100_1 (x1_0 : Int) (x1_1 : Int) (x1_2 : Int) (x1_3 : Int) (w : World) : (oBuild 100 [(1, .agg #[.int .i64 x1_0, .int .i64 x1_1, .int .i64 x1_2, .int .i64 x1_3])]).run Tryz.prog w = .ok (.value (.agg #[(.int .i64 0), (.int .i64 x1_0), (.int .i64 x1_1), (.int .i64 x1_2), (.int .i64 x1_3)])) w := by kernel_rfl
theorem pN_bld_100_1 (x1_0 : Int) (x1_1 : Int) (x1_2 : Int) (x1_3 : Int) : pN Tryz.prog (oBuild 100 [(1, .agg #[.int .i64 x1_0, .int .i64 x1_1, .int .i64 x1_2, .int .i64 x1_3])]) w K = K (.agg #[(.int .i64 0), (.int .i64 x1_0), (.int .i64 x1_1), (.int .i64 x1_2), (.int .i64 x1_3)]) w := by rw [pN_def, run_bld_100_1, rN_value]
theorem run_bld_128_0_1_2 (x0 : Option Addr) (x1 : Option Addr) (x2 : Option Addr) (w : World) : (oBuild 128 [(0, .pointer x0), (1, .pointer x1), (2, .pointer x2)]).run Tryz.prog w = .ok (.value (.agg #[(.pointer x0), (.pointer x1), (.pointer x2)])) w := by kernel_rfl
theorem pN_bld_128_0_1_2 (x0 : Option Addr) (x1 : Option Addr) (x2 : Option Addr) : pN Tryz.prog (oBuild 128 [(0, .pointer x0), (1, .pointer x1), (2, .pointer x2)]) w K = K (.agg #[(.pointer x0), (.pointer x1), (.pointer x2)]) w := by rw [pN_def, run_bld_128_0_1_2, rN_value]
theorem run_bld_136_0 (x0 : Option Addr) (w : World) : (oBuild 136 [(0, .pointer x0)]).run Tryz.prog w = .ok (.value (.agg #[(.pointer x0)])) w := by kernel_rfl
theorem pN_bld_136_0 (x0 : Option Addr) : pN Tryz.prog (oBuild 136 [(0, .pointer x0)]) w K = K (.agg #[(.pointer x0)]) w := by rw [pN_def, run_bld_136_0, rN_value]
theorem run_bld_139_0_1_2_3 (x0 : Option Addr) (x1 : Option Addr) (x2 : Option Addr) (x3 : Option Addr) (w : World) : (oBuild 139 [(0, .pointer x0), (1, .pointer x1), (2, .pointer x2), (3, .pointer x3)]).run Tryz.prog w = .ok (.value (.agg #[(.pointer x0), (.pointer x1), (.pointer x2), (.pointer x3)])) w := by kernel_rfl
theorem pN_bld_139_0_1_2_3 (x0 : Option Addr) (x1 : Option Addr) (x2 : Option Addr) (x3 : Option Addr) : pN Tryz.prog (oBuild 139 [(0, .pointer x0), (1, .pointer x1), (2, .pointer x2), (3, .pointer x3)]) w K = K (.agg #[(.pointer x0), (.pointer x1), (.pointer x2), (.pointer x3)]) w := by rw [pN_def, run_bld_139_0_1_2_3, rN_value]
theorem run_bld_141_0_1_2_3_4_5_6_7_8_9_10_11_12_13 (x0_0 : Int) (x0_1 : Int) (x0_2 : Int) (x1_0 : Int) (x1_1_0 : Int) (x1_1_1 : Int) (x1_1_2 : Int) (x1_1_3 : Int) (x2 : Option Addr) (x3 : Option Addr) (x4 : Option Addr) (x5 : Option Addr) (x6 : Option Addr) (x7 : Option Addr) (x8 : Option Addr) (x9_0 : Option Addr) (x9_1 : Option Addr) (x9_2 : Option Addr) (x9_3 : Option Addr) (x10_0 : Option Addr) (x10_1 : Option Addr) (x10_2 : Option Addr) (x10_3 : Option Addr) (x11 : Option Addr) (x12 : Option Addr) (x13 : Option Addr) (w : World) : (oBuild 141 [(0, .agg #[.int .i64 x0_0, .int .i64 x0_1, .int .i64 x0_2]), (1, .agg #[.int .i64 x1_0, .int .i64 x1_1_0, .int .i64 x1_1_1, .int .i64 x1_1_2, .int .i64 x1_1_3]), (2, .pointer x2), (3, .pointer x3), (4, .pointer x4), (5, .pointer x5), (6, .pointer x6), (7, .pointer x7), (8, .pointer x8), (9, .agg #[.pointer x9_0, .pointer x9_1, .pointer x9_2, .pointer x9_3]), (10, .agg #[.pointer x10_0, .pointer x10_1, .pointer x10_2, .pointer x10_3]), (11, .pointer x11), (12, .pointer x12), (13, .pointer x13)]).run Tryz.prog w = .ok (.value (.agg #[(.int .i64 x0_0), (.int .i64 x0_1), (.int .i64 x0_2), (.int .i64 x1_0), (.int .i64 x1_1_0), (.int .i64 x1_1_1), (.int .i64 x1_1_2), (.int .i64 x1_1_3), (.pointer x2), (.pointer x3), (.pointer x4), (.pointer x5), (.pointer x6), (.pointer x7), (.pointer x8), (.pointer x9_0), (.pointer x9_1), (.pointer x9_2), (.pointer x9_3), (.pointer x10_0), (.pointer x10_1), (.pointer x10_2), (.pointer x10_3), (.pointer x11), (.pointer x12), (.pointer x13)])) w := by kernel_rfl
theorem pN_bld_141_0_1_2_3_4_5_6_7_8_9_10_11_12_13 (x0_0 : Int) (x0_1 : Int) (x0_2 : Int) (x1_0 : Int) (x1_1_0 : Int) (x1_1_1 : Int) (x1_1_2 : Int) (x1_1_3 : Int) (x2 : Option Addr) (x3 : Option Addr) (x4 : Option Addr) (x5 : Option Addr) (x6 : Option Addr) (x7 : Option Addr) (x8 : Option Addr) (x9_0 : Option Addr) (x9_1 : Option Addr) (x9_2 : Option Addr) (x9_3 : Option Addr) (x10_0 : Option Addr) (x10_1 : Option Addr) (x10_2 : Option Addr) (x10_3 : Option Addr) (x11 : Option Addr) (x12 : Option Addr) (x13 : Option Addr) : pN Tryz.prog (oBuild 141 [(0, .agg #[.int .i64 x0_0, .int .i64 x0_1, .int .i64 x0_2]), (1, .agg #[.int .i64 x1_0, .int .i64 x1_1_0, .int .i64 x1_1_1, .int .i64 x1_1_2, .int .i64 x1_1_3]), (2, .pointer x2), (3, .pointer x3), (4, .pointer x4), (5, .pointer x5), (6, .pointer x6), (7, .pointer x7), (8, .pointer x8), (9, .agg #[.pointer x9_0, .pointer x9_1, .pointer x9_2, .pointer x9_3]), (10, .agg #[.pointer x10_0, .pointer x10_1, .pointer x10_2, .pointer x10_3]), (11, .pointer x11), (12, .pointer x12), (13, .pointer x13)]) w K = K (.agg #[(.int .i64 x0_0), (.int .i64 x0_1), (.int .i64 x0_2), (.int .i64 x1_0), (.int .i64 x1_1_0), (.int .i64 x1_1_1), (.int .i64 x1_1_2), (.int .i64 x1_1_3), (.pointer x2), (.pointer x3), (.pointer x4), (.pointer x5), (.pointer x6), (.pointer x7), (.pointer x8), (.pointer x9_0), (.pointer x9_1), (.pointer x9_2), (.pointer x9_3), (.pointer x10_0), (.pointer x10_1), (.pointer x10_2), (.pointer x10_3), (.pointer x11), (.pointer x12), (.pointer x13)]) w := by rw [pN_def, run_bld_141_0_1_2_3_4_5_6_7_8_9_10_11_12_13, rN_value]
theorem run_bld_171_0_1 (x0 : Option Addr) (x1 : Option Addr) (w : World) : (oBuild 171 [(0, .pointer x0), (1, .pointer x1)]).run Tryz.prog w = .ok (.value (.agg #[(.pointer x0), (.pointer x1), (.bool false)])) w := by kernel_rfl
theorem pN_bld_171_0_1 (x0 : Option Addr) (x1 : Option Addr) : pN Tryz.prog (oBuild 171 [(0, .pointer x0), (1, .pointer x1)]) w K = K (.agg #[(.pointer x0), (.pointer x1), (.bool false)]) w := by rw [pN_def, run_bld_171_0_1, rN_value]
theorem run_bld_175_0 (x0 : Int) (w : World) : (oBuild 175 [(0, .int .i64 x0)]).run Tryz.prog w = .ok (.value (.agg #[(.int .i64 x0), (.slice none 0 0), (.int .i64 0), (.int .i64 0)])) w := by kernel_rfl
theorem pN_bld_175_0 (x0 : Int) : pN Tryz.prog (oBuild 175 [(0, .int .i64 x0)]) w K = K (.agg #[(.int .i64 x0), (.slice none 0 0), (.int .i64 0), (.int .i64 0)]) w := by rw [pN_def, run_bld_175_0, rN_value]
theorem run_bld_190_1 (x1 : Int) (w : World) : (oBuild 190 [(1, .int .u32 x1)]).run Tryz.prog w = .ok (.value (.agg #[(.int .u64 0), (.int .u32 x1), (bv 0), (.int .i64 0), (.slice none 0 0)])) w := by kernel_rfl
theorem pN_bld_190_1 (x1 : Int) : pN Tryz.prog (oBuild 190 [(1, .int .u32 x1)]) w K = K (.agg #[(.int .u64 0), (.int .u32 x1), (bv 0), (.int .i64 0), (.slice none 0 0)]) w := by rw [pN_def, run_bld_190_1, rN_value]
theorem run_bld_219_0_1 (x0 : Int) (x1 : Option Addr) (x1n x1c : Nat) (w : World) : (oBuild 219 [(0, .int .i64 x0), (1, .slice x1 x1n x1c)]).run Tryz.prog w = .ok (.value (.agg #[(.int .i64 x0), (.slice x1 x1n x1c)])) w := by kernel_rfl
theorem pN_bld_219_0_1 (x0 : Int) (x1 : Option Addr) (x1n x1c : Nat) : pN Tryz.prog (oBuild 219 [(0, .int .i64 x0), (1, .slice x1 x1n x1c)]) w K = K (.agg #[(.int .i64 x0), (.slice x1 x1n x1c)]) w := by rw [pN_def, run_bld_219_0_1, rN_value]
theorem run_bld_224_0_1 (x0 : Int) (x1 : Int) (w : World) : (oBuild 224 [(0, .int .i64 x0), (1, .int .u32 x1)]).run Tryz.prog w = .ok (.value (.agg #[(.int .i64 x0), (.int .u32 x1), (.int .u32 0)])) w := by kernel_rfl
theorem pN_bld_224_0_1 (x0 : Int) (x1 : Int) : pN Tryz.prog (oBuild 224 [(0, .int .i64 x0), (1, .int .u32 x1)]) w K = K (.agg #[(.int .i64 x0), (.int .u32 x1), (.int .u32 0)]) w := by rw [pN_def, run_bld_224_0_1, rN_value]
theorem run_bld_226_0_1 (x0 : Option Addr) (x0n x0c : Nat) (x1_0 : Int) (x1_1 : Int) (x1_2 : Int) (w : World) : (oBuild 226 [(0, .slice x0 x0n x0c), (1, .agg #[.int .i64 x1_0, .int .u32 x1_1, .int .u32 x1_2])]).run Tryz.prog w = .ok (.value (.agg #[(.slice x0 x0n x0c), (.int .i64 x1_0), (.int .u32 x1_1), (.int .u32 x1_2)])) w := by kernel_rfl
theorem pN_bld_226_0_1 (x0 : Option Addr) (x0n x0c : Nat) (x1_0 : Int) (x1_1 : Int) (x1_2 : Int) : pN Tryz.prog (oBuild 226 [(0, .slice x0 x0n x0c), (1, .agg #[.int .i64 x1_0, .int .u32 x1_1, .int .u32 x1_2])]) w K = K (.agg #[(.slice x0 x0n x0c), (.int .i64 x1_0), (.int .u32 x1_1), (.int .u32 x1_2)]) w := by rw [pN_def, run_bld_226_0_1, rN_value]
theorem run_bld_233_0_1 (x0 : Option Addr) (x1 : Option Addr) (w : World) : (oBuild 233 [(0, .pointer x0), (1, .pointer x1)]).run Tryz.prog w = .ok (.value (.agg #[(.pointer x0), (.pointer x1), (.bool false)])) w := by kernel_rfl
theorem pN_bld_233_0_1 (x0 : Option Addr) (x1 : Option Addr) : pN Tryz.prog (oBuild 233 [(0, .pointer x0), (1, .pointer x1)]) w K = K (.agg #[(.pointer x0), (.pointer x1), (.bool false)]) w := by rw [pN_def, run_bld_233_0_1, rN_value]
theorem run_bld_254_0 (x0 : Option Addr) (x0n x0c : Nat) (w : World) : (oBuild 254 [(0, .slice x0 x0n x0c)]).run Tryz.prog w = .ok (.value (.agg #[(.slice x0 x0n x0c)])) w := by kernel_rfl
theorem pN_bld_254_0 (x0 : Option Addr) (x0n x0c : Nat) : pN Tryz.prog (oBuild 254 [(0, .slice x0 x0n x0c)]) w K = K (.agg #[(.slice x0 x0n x0c)]) w := by rw [pN_def, run_bld_254_0, rN_value]
theorem run_bld_67_0_1_2_3 (x0 : Int) (x1 : Int) (x2 : Int) (x3 : Int) (w : World) : (oBuild 67 [(0, .int .i64 x0), (1, .int .i64 x1), (2, .int .i64 x2), (3, .int .i64 x3)]).run Tryz.prog w = .ok (.value (.agg #[(.int .i64 x0), (.int .i64 x1), (.int .i64 x2), (.int .i64 x3)])) w := by kernel_rfl
theorem pN_bld_67_0_1_2_3 (x0 : Int) (x1 : Int) (x2 : Int) (x3 : Int) : pN Tryz.prog (oBuild 67 [(0, .int .i64 x0), (1, .int .i64 x1), (2, .int .i64 x2), (3, .int .i64 x3)]) w K = K (.agg #[(.int .i64 x0), (.int .i64 x1), (.int .i64 x2), (.int .i64 x3)]) w := by rw [pN_def, run_bld_67_0_1_2_3, rN_value]
end
attribute [go_sem] pN_shl_3_u64_4 pA_shl_3_u64_4 pN_shl_148_u64_1 pA_shl_148_u64_1 pN_shl_148_u64_8 pA_shl_148_u64_8 pN_shl_188_u64_8 pA_shl_188_u64_8 pN_shr_3_u64_3 pA_shr_3_u64_3 pN_shr_3_u64_4 pA_shr_3_u64_4 pN_shr_3_u64_5 pA_shr_3_u64_5 pN_shr_148_u64_11 pA_shr_148_u64_11 pN_shr_148_u64_16 pA_shr_148_u64_16 pN_shr_148_u64_27 pA_shr_148_u64_27 pN_shr_148_u64_8 pA_shr_148_u64_8 pN_shr_188_u64_16 pA_shr_188_u64_16 pN_shr_188_u64_24 pA_shr_188_u64_24 pN_shr_188_u64_32 pA_shr_188_u64_32 pN_shr_188_u64_58 pA_shr_188_u64_58 pN_shr_188_u64_8 pA_shr_188_u64_8 pN_and_3_1 pA_and_3_1 pN_and_3_15 pA_and_3_15 pN_and_148_1 pA_and_148_1 pN_and_169_1 pA_and_169_1 pN_and_188_16777215 pA_and_188_16777215 pN_bld_23_ pN_bld_23_0_2 pN_bld_48_0 pN_bld_48_0_1 pN_bld_48_0_2 pN_bld_48_0_2_3 pN_bld_100_ pN_bld_100_1 pN_bld_128_0_1_2 pN_bld_136_0 pN_bld_139_0_1_2_3 pN_bld_141_0_1_2_3_4_5_6_7_8_9_10_11_12_13 pN_bld_171_0_1 pN_bld_175_0 pN_bld_190_1 pN_bld_219_0_1 pN_bld_224_0_1 pN_bld_226_0_1 pN_bld_233_0_1 pN_bld_254_0 pN_bld_67_0_1_2_3
theorem cells_3 : Tryz.prog.cellsOf 3 = 1 := by kernel_rfl
theorem cells_5 : Tryz.prog.cellsOf 5 = 1 := by kernel_rfl
theorem bytes_5 : Tryz.prog.bytesOf 5 = 1 := by kernel_rfl
theorem cells_23 : Tryz.prog.cellsOf 23 = 3 := by kernel_rfl
theorem cells_30 : Tryz.prog.cellsOf 30 = 1 := by kernel_rfl
theorem cells_84 : Tryz.prog.cellsOf 84 = 6 := by kernel_rfl
theorem piece (cs : List Value) (o s : Nat) : cs.drop o = (cs.drop o).take s ++ cs.drop (o + s) := by rw [← List.drop_drop, List.take_append_drop]
def T_api_Props.ok (W : World) (b : T_api_Props) (k : Nat) : Prop := (-9223372036854775808 ≤ b.LC ∧ b.LC < 9223372036854775808) ∧ (-9223372036854775808 ≤ b.LP ∧ b.LP < 9223372036854775808) ∧ (-9223372036854775808 ≤ b.PB ∧ b.PB < 9223372036854775808)
theorem opn_api_Props (W : World) : Opn Tryz.prog W 23 T_api_Props.enc (T_api_Props.ok W) := by
  refine ⟨fun {H} en fuel cs x hx hw => ?_⟩
  obtain ⟨xs, n, _, rfl, hl, hlen, hf⟩ := DataW.trod_struct Tryz.underlying23 hx
  have hlen : xs.length = 3 := hlen
  rw [cells_23] at hl
  obtain ⟨b0, e0, k0, m0, o0⟩ := opn_field Tryz.underlying23 hw hf 0 3 0 1 ⟨_, rfl, rfl, rfl⟩ cells_3 (by omega) (opn_i64 Tryz.underlying3)
  have q0 := piece cs 0 1
  rw [e0] at q0
  obtain ⟨b1, e1, k1, m1, o1⟩ := opn_field Tryz.underlying23 hw hf 1 3 1 1 ⟨_, rfl, rfl, rfl⟩ cells_3 (by omega) (opn_i64 Tryz.underlying3)
  have q1 := piece cs 1 1
  rw [e1] at q1
  obtain ⟨b2, e2, k2, m2, o2⟩ := opn_field Tryz.underlying23 hw hf 2 3 2 1 ⟨_, rfl, rfl, rfl⟩ cells_3 (by omega) (opn_i64 Tryz.underlying3)
  have q2 := piece cs 2 1
  rw [e2] at q2
  have hz : cs.drop 3 = [] := List.drop_of_length_le (by omega)
  refine ⟨⟨b0, b1, b2⟩, ?_, ⟨o0, o1, o2⟩⟩
  have q : cs.drop 0 = _ := q0
  simp only [Nat.zero_add, Nat.reduceAdd, hz, List.drop_zero] at q q1 q2
  rw [q1] at q
  rw [q2] at q
  exact q
def T_pithlaw15_Quest.ok (W : World) (b : T_pithlaw15_Quest) (k : Nat) : Prop := (∃ k', k' ≤ k ∧ b.f_P.ok W k') ∧ (-9223372036854775808 ≤ b.Dict ∧ b.Dict < 9223372036854775808) ∧ (∃ k', k' ≤ k ∧ (RdP cd_uint8 (old W) b.B.1 b.B.2 ∧ b.B.2.length * 1 ≤ reachBytes ∧ b.B.2.length + 1 ≤ k' ∧ ∀ c0 ∈ b.B.2, ∃ k0, k0 ≤ k' ∧ True)) ∧ (-9223372036854775808 ≤ b.N ∧ b.N < 9223372036854775808)
theorem opn_pithlaw15_Quest (W : World) : Opn Tryz.prog W 84 T_pithlaw15_Quest.enc (T_pithlaw15_Quest.ok W) := by
  refine ⟨fun {H} en fuel cs x hx hw => ?_⟩
  obtain ⟨xs, n, _, rfl, hl, hlen, hf⟩ := DataW.trod_struct Tryz.underlying84 hx
  have hlen : xs.length = 4 := hlen
  rw [cells_84] at hl
  obtain ⟨b0, e0, k0, m0, o0⟩ := opn_field Tryz.underlying84 hw hf 0 23 0 3 ⟨_, rfl, rfl, rfl⟩ cells_23 (by omega) (opn_api_Props W)
  have q0 := piece cs 0 3
  rw [e0] at q0
  obtain ⟨b1, e1, k1, m1, o1⟩ := opn_field Tryz.underlying84 hw hf 1 3 3 1 ⟨_, rfl, rfl, rfl⟩ cells_3 (by omega) (opn_i64 Tryz.underlying3)
  have q1 := piece cs 3 1
  rw [e1] at q1
  obtain ⟨b2, e2, k2, m2, o2⟩ := opn_field Tryz.underlying84 hw hf 2 30 4 1 ⟨_, rfl, rfl, rfl⟩ cells_30 (by omega) (opn_slice (C := cd_uint8) Tryz.underlying30 cells_5 bytes_5 (opn_u8 Tryz.underlying5))
  have q2 := piece cs 4 1
  rw [e2] at q2
  obtain ⟨b3, e3, k3, m3, o3⟩ := opn_field Tryz.underlying84 hw hf 3 3 5 1 ⟨_, rfl, rfl, rfl⟩ cells_3 (by omega) (opn_i64 Tryz.underlying3)
  have q3 := piece cs 5 1
  rw [e3] at q3
  have hz : cs.drop 6 = [] := List.drop_of_length_le (by omega)
  refine ⟨⟨b0, b1, b2, b3⟩, ?_, ⟨⟨_, m0, o0⟩, o1, ⟨_, m2, o2⟩, o3⟩⟩
  have q : cs.drop 0 = _ := q0
  simp only [Nat.zero_add, Nat.reduceAdd, hz, List.drop_zero] at q q1 q2 q3
  rw [q1] at q
  rw [q2] at q
  rw [q3] at q
  exact q
end Go.Proofs.YtbgnnjfpiblkmaaGreatDoor
