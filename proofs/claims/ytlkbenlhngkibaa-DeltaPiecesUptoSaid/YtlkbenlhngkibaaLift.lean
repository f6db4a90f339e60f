/-
  Printed by a program of mine (lift.py): each function of the seat as a plain proposition over values and worlds; that the program meets it.
-/
import Derived.Test.YtlkbenlhngkibaaRows
import Derived.Test.YtlkbenlhngkibaaFacts
namespace Go.Proofs.Ytlkbenlhngkibaa
open Go

/-! pithlaw19_DeltaPieces: pith/pithlaw19.DeltaPieces; temporaries: 0:one 1:back 2:two 3:also 4:pieces 5:one 6:back 7:two 8:also 9:pieces 11:f 12:e 13:g 14:h 15:r 16:s 17:l 18:_ 19:p 20:d 21:c 22:b 23:full 24:x 25:i -/
def pithlaw19_DeltaPieces.H : Hints := { cut := fun | 18 => some ([20, 21], 297105609428491265975792959488) | 29 => some ([17], 44601490397061245045131397259916448179553280) | _ => none, loop := fun | 11 => ([17, 88], 89202980794122492256657863269248377365857280) | 24 => ([126], 348364073135310751970629754358272740032512) | _ => ([], 0), order := fun | 21 => [(0, 0), (1, 1), (2, 3), (3, 7), (4, 15), (5, 31), (6, 63), (7, 127), (8, 255), (9, 511), (10, 1023), (11, 2047), (12, 4095), (13, 8191), (14, 16383)] | _ => [] }
def pithlaw19_DeltaPieces.F (x0 : Value) (x1 : Value) (x2 : Value) (x3 : Value) (x4 : Value) (w : World) (Q : Value → World → Prop) : Prop :=
 pN Try.prog (oCall 9 [x0, x1]) w fun x29 w1 =>
 pN Try.prog (oExt x29 0) w1 fun x30 w2 =>
 pN Try.prog (oExt x29 1) w2 fun x31 w3 =>
 pN Try.prog (oCall 9 [x2, x3]) w3 fun x35 w4 =>
 pN Try.prog (oExt x35 0) w4 fun x36 w5 =>
 pN Try.prog (oExt x35 1) w5 fun x37 w6 =>
 pN Try.prog (oBin .eql 24 (.tmp 38) (.const (.int .i64 0)) x31 (.int .i64 0)) w6 fun x39 w7 =>
 pN Try.prog (oCall 10 [x0]) w7 fun x41 w8 =>
 pN Try.prog (oBin .neq 4 (.tmp 39) (.tmp 41) x39 x41) w8 fun x42 w9 =>
 pGd (gB x42 false) (pN Try.prog (oMv x37) w9) w9 fun x44 w10 =>
 pGd (gB x42 false) (pN Try.prog (oBin .eql 24 (.tmp 44) (.const (.int .i64 0)) x44 (.int .i64 0)) w10) w10 fun x45 w11 =>
 pGd (gB x42 false) (pN Try.prog (oMv x2) w11) w11 fun x46 w12 =>
 pGd (gB x42 false) (pN Try.prog (oCall 10 [x46]) w12) w12 fun x47 w13 =>
 pGd (gB x42 false) (pN Try.prog (oBin .neq 4 (.tmp 45) (.tmp 47) x45 x47) w13) w13 fun x48 w14 =>
 pN Try.prog (oPick x42 (.bool true) x48) w14 fun x49 w15 =>
 pGd (gB x49 false) (pN Try.prog (oMv x30) w15) w15 fun x51 w16 =>
 pGd (gB x49 false) (pN Try.prog (oBin .eql 23 (.tmp 51) (.const (.pointer none)) x51 (.pointer none)) w16) w16 fun x52 w17 =>
 pGd (gB x49 false) (pN Try.prog (oMv x31) w17) w17 fun x53 w18 =>
 pGd (gB x49 false) (pN Try.prog (oBin .neq 24 (.tmp 53) (.const (.int .i64 0)) x53 (.int .i64 0)) w18) w18 fun x54 w19 =>
 pGd (gB x49 false) (pN Try.prog (oBin .neq 4 (.tmp 52) (.tmp 54) x52 x54) w19) w19 fun x55 w20 =>
 pN Try.prog (oPick x49 (.bool true) x55) w20 fun x56 w21 =>
 pGd (gB x56 false) (pN Try.prog (oMv x36) w21) w21 fun x58 w22 =>
 pGd (gB x56 false) (pN Try.prog (oBin .eql 23 (.tmp 58) (.const (.pointer none)) x58 (.pointer none)) w22) w22 fun x59 w23 =>
 pGd (gB x56 false) (pN Try.prog (oMv x37) w23) w23 fun x60 w24 =>
 pGd (gB x56 false) (pN Try.prog (oBin .neq 24 (.tmp 60) (.const (.int .i64 0)) x60 (.int .i64 0)) w24) w24 fun x61 w25 =>
 pGd (gB x56 false) (pN Try.prog (oBin .neq 4 (.tmp 59) (.tmp 61) x59 x61) w25) w25 fun x62 w26 =>
 pN Try.prog (oPick x56 (.bool true) x62) w26 fun x63 w27 =>
 pIf x63
 (Q (.bool false) w27)
 (pN Try.prog (oBin .neq 24 (.tmp 64) (.const (.int .i64 0)) x31 (.int .i64 0)) w27 fun x65 w28 =>
 pGd (gB x65 true) (pN Try.prog (oMv x31) w28) w28 fun x67 w29 =>
 pGd (gB x65 true) (pN Try.prog (oBin .neq 3 (.tmp 67) (.const (.int .i64 6)) x67 (.int .i64 6)) w29) w29 fun x68 w30 =>
 pN Try.prog (oPick x65 x68 (.bool false)) w30 fun x69 w31 =>
 pGd (gB x69 false) (pN Try.prog (oMv x37) w31) w31 fun x71 w32 =>
 pGd (gB x69 false) (pN Try.prog (oBin .neq 24 (.tmp 71) (.const (.int .i64 0)) x71 (.int .i64 0)) w32) w32 fun x72 w33 =>
 pGd (gB x69 false) (pN Try.prog (oMv x72) w33) w33 fun x73 w34 =>
 pGd (gB x73 true) (pN Try.prog (oMv x37) w34) w34 fun x74 w35 =>
 pGd (gB x73 true) (pN Try.prog (oBin .neq 3 (.tmp 74) (.const (.int .i64 6)) x74 (.int .i64 6)) w35) w35 fun x75 w36 =>
 pGd (gB x69 false) (pN Try.prog (oPick x73 x75 (.bool false)) w36) w36 fun x76 w37 =>
 pN Try.prog (oPick x69 (.bool true) x76) w37 fun x77 w38 =>
 pIf x77
 (Q (.bool false) w38)
 (pN Try.prog (oBuild 31 [(0, x0), (1, x1)]) w38 fun x80 w39 =>
 pN Try.prog (oBox 31 x80) w39 fun x81 w40 =>
 pN Try.prog (oBuild 31 [(0, x2), (1, x3)]) w40 fun x84 w41 =>
 pN Try.prog (oBox 31 x84) w41 fun x85 w42 =>
 pN Try.prog (oBi .len #[22] 3 [false] [x4]) w42 fun x87 w43 =>
 ∃ (L11 : Value → Value → World → Prop) (m11 : Value → Value → World → Nat),
 L11 (.slice none 0 0) (.int .i64 0) w43 ∧
 ∀ (_k11 : Env) (l17l11 : Value) (v88l11 : Value) (w44 : World), L11 l17l11 v88l11 w44 →
 pN Try.prog (oBin .lss 3 (.tmp 88) (.tmp 87) v88l11 x87) w44 fun x89 w45 =>
 pIf x89
 (∃ I29 : Value → World → Prop,
 (pN Try.prog (oIdx 22 x4 v88l11) w45 fun x90 w46 =>
 pN Try.prog (oLoad 34 x90) w46 fun x91 w47 =>
 pN Try.prog (oAlloc 34) w47 fun x19 w48 =>
 pN Try.prog (oStore 34 x19 x91) w48 fun _ w49 =>
 ∃ I18 : Value → Value → World → Prop,
 (pN Try.prog (oFld 34 x19 0) w49 fun x94 w50 =>
 pN Try.prog (oLoad 4 x94) w50 fun x95 w51 =>
 pIf x95
 (I18 x36 x85 w51)
 (I18 x30 x81 w51)) ∧
 ∀ (_j18 : Env) (d20c18 : Value) (c21c18 : Value) (w52 : World), I18 d20c18 c21c18 w52 →
 pN Try.prog (oBin .eql 23 (.tmp 98) (.const (.pointer none)) d20c18 (.pointer none)) w52 fun x99 w53 =>
 pIf x99
 (I29 l17l11 w53)
 (pN Try.prog (oFld 34 x19 1) w53 fun x101 w54 =>
 pN Try.prog (oLoad 29 x101) w54 fun x102 w55 =>
 pN Try.prog (oCall 11 [x102]) w55 fun x103 w56 =>
 pN Try.prog (oExt x103 0) w56 fun x104 w57 =>
 pN Try.prog (oExt x103 1) w57 fun x105 w58 =>
 pN Try.prog (oCall 12 [d20c18, x104]) w58 fun x108 w59 =>
 pDr w59 fun w60 =>
 pL Try.prog (oConv 29 9 x108) w60 fun x110 =>
 pA Try.prog (oFld 34 x19 1) fun x112 =>
 pL Try.prog (oLoad 29 x112) w60 fun x113 =>
 pN Try.prog (oCall 13 [c21c18, x113]) w60 fun x114 w61 =>
 ((Sem.run Try.prog (oConv 29 9 x108) w61 = .ok (.value x110) w61) ∧ True) ∧ (pL Try.prog (oConv 29 9 x114) w61 fun x115 =>
 pA Try.prog (oBin .neq 9 (.tmp 110) (.tmp 115) x110 x115) fun x116 =>
 gA (gB x116 false) (pA Try.prog (oMv x105)) fun x118 =>
 gA (gB x116 false) (pA Try.prog (oFld 34 x19 1)) fun x119 =>
 gA (gB x116 false) (pL Try.prog (oLoad 29 x119) w61) fun x120 =>
 pGd (gB x116 false) (pN Try.prog (oCall 14 [x118, x120]) w61) w61 fun x121 w62 =>
 (True) ∧ (gA (gB x116 false) (pA Try.prog (oUn .not x121)) fun x122 =>
 pA Try.prog (oPick x116 (.bool true) x122) fun x123 =>
 pIf x123
 (Q (.bool false) w62)
 (pN Try.prog (oBi .len #[29] 3 [false] [x105]) w62 fun x125 w63 =>
 ∃ (L24 : Value → World → Prop) (m24 : Value → World → Nat),
 L24 (.int .i64 0) w63 ∧
 ∀ (_k24 : Env) (v126l24 : Value) (w64 : World), L24 v126l24 w64 →
 pN Try.prog (oBin .lss 3 (.tmp 126) (.tmp 125) v126l24 x125) w64 fun x127 w65 =>
 pIf x127
 (pN Try.prog (oIdx 29 x105 v126l24) w65 fun x133 w66 =>
 pN Try.prog (oLoad 5 x133) w66 fun x134 w67 =>
 pN Try.prog (oBin .add 5 (.tmp 134) (.const (.int .u8 101)) x134 (.int .u8 101)) w67 fun x135 w68 =>
 pN Try.prog (oIdx 29 x105 v126l24) w68 fun x136 w69 =>
 pN Try.prog (oStore 5 x136 x135) w69 fun _ w70 =>
 pN Try.prog (oBin .add 3 (.tmp 126) (.const (.int .i64 1)) v126l24 (.int .i64 1)) w70 fun x137 w71 =>
 (L24 x137 w71 ∧ m24 x137 w71 < m24 v126l24 w64))
 (pN Try.prog (oBi .len #[32] 3 [false] [l17l11]) w65 fun x141 w72 =>
 pN Try.prog (oCall 15 [x108, x141]) w72 fun x142 w73 =>
 pN Try.prog (oBs 32 1 [(0, x142)]) w73 fun x143 w74 =>
 pN Try.prog (oBi .append #[32, 32] 32 [false, false] [l17l11, x143]) w74 fun x144 w75 =>
 I29 x144 w75)))))) ∧
 ∀ (_j29 : Env) (l17c29 : Value) (w76 : World), I29 l17c29 w76 →
 pN Try.prog (oBin .add 3 (.tmp 88) (.const (.int .i64 1)) v88l11 (.int .i64 1)) w76 fun x145 w77 =>
 (L11 l17c29 x145 w77 ∧ m11 l17c29 x145 w77 < m11 l17l11 v88l11 w44))
 (pN Try.prog (oCall 16 [l17l11]) w45 fun x147 w78 =>
 Q x147 w78)))
noncomputable def pithlaw19_DeltaPieces.c : Code := match Try.f3.body with | some c => c | none => .skip
theorem pithlaw19_DeltaPieces.eq (x0 : Value) (x1 : Value) (x2 : Value) (x3 : Value) (x4 : Value) (w : World) (Q : Value → World → Prop) : cw Try.prog pithlaw19_DeltaPieces.H pithlaw19_DeltaPieces.c (endQ Try.prog Try.f3.results.toList Q) (argsE [x0, x1, x2, x3, x4]) w = pithlaw19_DeltaPieces.F x0 x1 x2 x3 x4 w Q := by kernel_rfl
theorem pithlaw19_DeltaPieces.calls {x0 : Value} {x1 : Value} {x2 : Value} {x3 : Value} {x4 : Value} {w : World} {Q : Value → World → Prop} (h : pithlaw19_DeltaPieces.F x0 x1 x2 x3 x4 w Q) : Calls Try.prog 3 #[x0, x1, x2, x3, x4] w (retP Q) :=
  calls_of_cw (H := pithlaw19_DeltaPieces.H) (c := pithlaw19_DeltaPieces.c) (args := [x0, x1, x2, x3, x4]) mixed Try.func3 (by kernel_rfl) (by kernel_rfl) (Nat.le_of_ble_eq_true (by kernel_rfl)) ((pithlaw19_DeltaPieces.eq x0 x1 x2 x3 x4 w Q).mpr h)

/-! pithlaw19_DeltaWhole: pith/pithlaw19.DeltaWhole; temporaries: 0:b 1:dist 2:b 3:dist 5:x 6:full 7:y 8:e 9:z 10:f 11:v 12:g 13:w 14:h 15:t 16:_ 17:o 18:_ 19:l 20:u 21:i -/
def pithlaw19_DeltaWhole.H : Hints := { cut := fun  | _ => none, loop := fun  | _ => ([], 0), order := fun  | _ => [] }
def pithlaw19_DeltaWhole.F (x0 : Value) (x1 : Value) (w : World) (Q : Value → World → Prop) : Prop :=
 pN Try.prog (oCall 11 [x0]) w fun x24 w1 =>
 pN Try.prog (oExt x24 0) w1 fun x25 w2 =>
 pN Try.prog (oExt x24 1) w2 fun x26 w3 =>
 pN Try.prog (oCall 17 [x25, x1]) w3 fun x30 w4 =>
 pN Try.prog (oExt x30 0) w4 fun x31 w5 =>
 pN Try.prog (oExt x30 1) w5 fun x32 w6 =>
 pN Try.prog (oCall 18 [x25, x1]) w6 fun x36 w7 =>
 pN Try.prog (oExt x36 0) w7 fun x37 w8 =>
 pN Try.prog (oExt x36 1) w8 fun x38 w9 =>
 pN Try.prog (oCall 19 [x0, x1, (.bool false)]) w9 fun x42 w10 =>
 pN Try.prog (oExt x42 0) w10 fun x43 w11 =>
 pN Try.prog (oExt x42 1) w11 fun x44 w12 =>
 pN Try.prog (oCall 19 [x0, x1, (.bool true)]) w12 fun x48 w13 =>
 pN Try.prog (oExt x48 0) w13 fun x49 w14 =>
 pN Try.prog (oExt x48 1) w14 fun x50 w15 =>
 pN Try.prog (oConv 29 9 x31) w15 fun x52 w16 =>
 pN Try.prog (oConv 29 9 x43) w16 fun x54 w17 =>
 pN Try.prog (oBin .neq 9 (.tmp 52) (.tmp 54) x52 x54) w17 fun x55 w18 =>
 pGd (gB x55 false) (pN Try.prog (oMv x37) w18) w18 fun x57 w19 =>
 pGd (gB x55 false) (pN Try.prog (oConv 29 9 x57) w19) w19 fun x58 w20 =>
 pGd (gB x55 false) (pN Try.prog (oMv x49) w20) w20 fun x59 w21 =>
 pGd (gB x55 false) (pN Try.prog (oConv 29 9 x59) w21) w21 fun x60 w22 =>
 pGd (gB x55 false) (pN Try.prog (oBin .neq 9 (.tmp 58) (.tmp 60) x58 x60) w22) w22 fun x61 w23 =>
 pN Try.prog (oPick x55 (.bool true) x61) w23 fun x62 w24 =>
 pGd (gB x62 false) (pN Try.prog (oMv x32) w24) w24 fun x64 w25 =>
 pGd (gB x62 false) (pN Try.prog (oMv x44) w25) w25 fun x65 w26 =>
 pGd (gB x62 false) (pN Try.prog (oBin .neq 3 (.tmp 64) (.tmp 65) x64 x65) w26) w26 fun x66 w27 =>
 pN Try.prog (oPick x62 (.bool true) x66) w27 fun x67 w28 =>
 pGd (gB x67 false) (pN Try.prog (oMv x38) w28) w28 fun x69 w29 =>
 pGd (gB x67 false) (pN Try.prog (oMv x50) w29) w29 fun x70 w30 =>
 pGd (gB x67 false) (pN Try.prog (oBin .neq 3 (.tmp 69) (.tmp 70) x69 x70) w30) w30 fun x71 w31 =>
 pN Try.prog (oPick x67 (.bool true) x71) w31 fun x72 w32 =>
 pGd (gB x72 false) (pN Try.prog (oMv x26) w32) w32 fun x74 w33 =>
 pGd (gB x72 false) (pN Try.prog (oMv x0) w33) w33 fun x75 w34 =>
 pGd (gB x72 false) (pN Try.prog (oCall 14 [x74, x75]) w34) w34 fun x76 w35 =>
 pGd (gB x72 false) (pN Try.prog (oUn .not x76) w35) w35 fun x77 w36 =>
 pN Try.prog (oPick x72 (.bool true) x77) w36 fun x78 w37 =>
 pIf x78
 (Q (.bool false) w37)
 (pN Try.prog (oCall 17 [x25, x1]) w37 fun x82 w38 =>
 pN Try.prog (oExt x82 0) w38 fun x83 w39 =>
 pN Try.prog (oExt x82 1) w39 fun _ w40 =>
 pN Try.prog (oCall 18 [x25, x1]) w40 fun x88 w41 =>
 pN Try.prog (oExt x88 0) w41 fun x89 w42 =>
 pN Try.prog (oExt x88 1) w42 fun _ w43 =>
 pN Try.prog (oConv 29 9 x83) w43 fun x92 w44 =>
 pN Try.prog (oConv 29 9 x43) w44 fun x94 w45 =>
 pN Try.prog (oBin .neq 9 (.tmp 92) (.tmp 94) x92 x94) w45 fun x95 w46 =>
 pGd (gB x95 false) (pN Try.prog (oMv x89) w46) w46 fun x97 w47 =>
 pGd (gB x95 false) (pN Try.prog (oConv 29 9 x97) w47) w47 fun x98 w48 =>
 pGd (gB x95 false) (pN Try.prog (oMv x49) w48) w48 fun x99 w49 =>
 pGd (gB x95 false) (pN Try.prog (oConv 29 9 x99) w49) w49 fun x100 w50 =>
 pGd (gB x95 false) (pN Try.prog (oBin .neq 9 (.tmp 98) (.tmp 100) x98 x100) w50) w50 fun x101 w51 =>
 pN Try.prog (oPick x95 (.bool true) x101) w51 fun x102 w52 =>
 pIf x102
 (Q (.bool false) w52)
 (pN Try.prog (oCall 15 [x31, (.int .i64 1)]) w52 fun x104 w53 =>
 pN Try.prog (oCall 15 [x83, (.int .i64 2)]) w53 fun x106 w54 =>
 pN Try.prog (oCall 15 [x37, (.int .i64 3)]) w54 fun x108 w55 =>
 pN Try.prog (oCall 15 [x89, (.int .i64 4)]) w55 fun x110 w56 =>
 pN Try.prog (oBs 32 4 [(0, x104), (1, x106), (2, x108), (3, x110)]) w56 fun x111 w57 =>
 pN Try.prog (oCall 16 [x111]) w57 fun x113 w58 =>
 pN Try.prog (oUn .not x113) w58 fun x114 w59 =>
 pIf x114
 (Q (.bool false) w59)
 (pN Try.prog (oCall 17 [x25, x1]) w59 fun x118 w60 =>
 pN Try.prog (oExt x118 0) w60 fun x119 w61 =>
 pN Try.prog (oExt x118 1) w61 fun x120 w62 =>
 pN Try.prog (oConv 29 9 x119) w62 fun x122 w63 =>
 pN Try.prog (oConv 29 9 x43) w63 fun x124 w64 =>
 pN Try.prog (oBin .eql 9 (.tmp 122) (.tmp 124) x122 x124) w64 fun x125 w65 =>
 pGd (gB x125 true) (pN Try.prog (oMv x120) w65) w65 fun x127 w66 =>
 pGd (gB x125 true) (pN Try.prog (oMv x44) w66) w66 fun x128 w67 =>
 pGd (gB x125 true) (pN Try.prog (oBin .eql 3 (.tmp 127) (.tmp 128) x127 x128) w67) w67 fun x129 w68 =>
 pN Try.prog (oPick x125 x129 (.bool false)) w68 fun x130 w69 =>
 pGd (gB x130 true) (pN Try.prog (oMv x26) w69) w69 fun x132 w70 =>
 pGd (gB x130 true) (pN Try.prog (oMv x0) w70) w70 fun x133 w71 =>
 pGd (gB x130 true) (pN Try.prog (oCall 14 [x132, x133]) w71) w71 fun x134 w72 =>
 pN Try.prog (oPick x130 x134 (.bool false)) w72 fun x135 w73 =>
 pGd (gB x135 true) (pN Try.prog (oMv x25) w73) w73 fun x137 w74 =>
 pGd (gB x135 true) (pN Try.prog (oMv x1) w74) w74 fun x138 w75 =>
 pGd (gB x135 true) (pN Try.prog (oCall 20 [x137, x138]) w75) w75 fun x139 w76 =>
 pN Try.prog (oPick x135 x139 (.bool false)) w76 fun x140 w77 =>
 Q x140 w77)))
noncomputable def pithlaw19_DeltaWhole.c : Code := match Try.f4.body with | some c => c | none => .skip
theorem pithlaw19_DeltaWhole.eq (x0 : Value) (x1 : Value) (w : World) (Q : Value → World → Prop) : cw Try.prog pithlaw19_DeltaWhole.H pithlaw19_DeltaWhole.c (endQ Try.prog Try.f4.results.toList Q) (argsE [x0, x1]) w = pithlaw19_DeltaWhole.F x0 x1 w Q := by kernel_rfl
theorem pithlaw19_DeltaWhole.calls {x0 : Value} {x1 : Value} {w : World} {Q : Value → World → Prop} (h : pithlaw19_DeltaWhole.F x0 x1 w Q) : Calls Try.prog 4 #[x0, x1] w (retP Q) :=
  calls_of_cw (H := pithlaw19_DeltaWhole.H) (c := pithlaw19_DeltaWhole.c) (args := [x0, x1]) mixed Try.func4 (by kernel_rfl) (by kernel_rfl) (Nat.le_of_ble_eq_true (by kernel_rfl)) ((pithlaw19_DeltaWhole.eq x0 x1 w Q).mpr h)

/-! pithlaw19_DeltaBack: pith/pithlaw19.DeltaBack; temporaries: 0:b 1:n 2:b 3:n 5:d 6:x 7:y 8:ok 9:_ 10:u 11:v 12:_ 13:also 14:two 15:e -/
def pithlaw19_DeltaBack.H : Hints := { cut := fun  | _ => none, loop := fun  | _ => ([], 0), order := fun  | _ => [] }
def pithlaw19_DeltaBack.F (x0 : Value) (x1 : Value) (w : World) (Q : Value → World → Prop) : Prop :=
 pN Try.prog (oCall 21 [x1]) w fun x17 w1 =>
 pN Try.prog (oCall 22 [x0, x17]) w1 fun x21 w2 =>
 pN Try.prog (oExt x21 0) w2 fun x22 w3 =>
 pN Try.prog (oExt x21 1) w3 fun x23 w4 =>
 pN Try.prog (oExt x21 2) w4 fun x24 w5 =>
 pN Try.prog (oUn .not x24) w5 fun x26 w6 =>
 pIf x26
 (Q (.bool false) w6)
 (pN Try.prog (oCall 22 [x22, x17]) w6 fun x30 w7 =>
 pN Try.prog (oExt x30 0) w7 fun _ w8 =>
 pN Try.prog (oExt x30 1) w8 fun x32 w9 =>
 pN Try.prog (oExt x30 2) w9 fun x33 w10 =>
 pN Try.prog (oCall 22 [x23, x17]) w10 fun x37 w11 =>
 pN Try.prog (oExt x37 0) w11 fun x38 w12 =>
 pN Try.prog (oExt x37 1) w12 fun _ w13 =>
 pN Try.prog (oExt x37 2) w13 fun x40 w14 =>
 pN Try.prog (oBs 29 2 [(0, (.int .u8 7)), (1, (.int .u8 9))]) w14 fun x42 w15 =>
 pN Try.prog (oCall 17 [x42, (.int .i64 1)]) w15 fun x43 w16 =>
 pN Try.prog (oExt x43 0) w16 fun x44 w17 =>
 pN Try.prog (oExt x43 1) w17 fun x45 w18 =>
 pGd (gB x33 true) (pN Try.prog (oMv x40) w18) w18 fun x48 w19 =>
 pN Try.prog (oPick x33 x48 (.bool false)) w19 fun x49 w20 =>
 pGd (gB x49 true) (pN Try.prog (oMv x32) w20) w20 fun x51 w21 =>
 pGd (gB x49 true) (pN Try.prog (oConv 29 9 x51) w21) w21 fun x52 w22 =>
 pGd (gB x49 true) (pN Try.prog (oMv x0) w22) w22 fun x53 w23 =>
 pGd (gB x49 true) (pN Try.prog (oConv 29 9 x53) w23) w23 fun x54 w24 =>
 pGd (gB x49 true) (pN Try.prog (oBin .eql 9 (.tmp 52) (.tmp 54) x52 x54) w24) w24 fun x55 w25 =>
 pN Try.prog (oPick x49 x55 (.bool false)) w25 fun x56 w26 =>
 pGd (gB x56 true) (pN Try.prog (oMv x38) w26) w26 fun x58 w27 =>
 pGd (gB x56 true) (pN Try.prog (oConv 29 9 x58) w27) w27 fun x59 w28 =>
 pGd (gB x56 true) (pN Try.prog (oMv x0) w28) w28 fun x60 w29 =>
 pGd (gB x56 true) (pN Try.prog (oConv 29 9 x60) w29) w29 fun x61 w30 =>
 pGd (gB x56 true) (pN Try.prog (oBin .eql 9 (.tmp 59) (.tmp 61) x59 x61) w30) w30 fun x62 w31 =>
 pN Try.prog (oPick x56 x62 (.bool false)) w31 fun x63 w32 =>
 pGd (gB x63 true) (pN Try.prog (oMv x45) w32) w32 fun x65 w33 =>
 pGd (gB x63 true) (pN Try.prog (oBin .eql 24 (.tmp 65) (.const (.int .i64 0)) x65 (.int .i64 0)) w33) w33 fun x66 w34 =>
 pN Try.prog (oPick x63 x66 (.bool false)) w34 fun x67 w35 =>
 pGd (gB x67 true) (pN Try.prog (oMv x44) w35) w35 fun x69 w36 =>
 pGd (gB x67 true) (pN Try.prog (oConv 29 9 x69) w36) w36 fun x70 w37 =>
 pGd (gB x67 true) (pN Try.prog (oBin .eql 9 (.tmp 70) (.const (.string ⟨#[7, 2]⟩)) x70 (.string ⟨#[7, 2]⟩)) w37) w37 fun x71 w38 =>
 pN Try.prog (oPick x67 x71 (.bool false)) w38 fun x72 w39 =>
 Q x72 w39)
noncomputable def pithlaw19_DeltaBack.c : Code := match Try.f5.body with | some c => c | none => .skip
theorem pithlaw19_DeltaBack.eq (x0 : Value) (x1 : Value) (w : World) (Q : Value → World → Prop) : cw Try.prog pithlaw19_DeltaBack.H pithlaw19_DeltaBack.c (endQ Try.prog Try.f5.results.toList Q) (argsE [x0, x1]) w = pithlaw19_DeltaBack.F x0 x1 w Q := by kernel_rfl
theorem pithlaw19_DeltaBack.calls {x0 : Value} {x1 : Value} {w : World} {Q : Value → World → Prop} (h : pithlaw19_DeltaBack.F x0 x1 w Q) : Calls Try.prog 5 #[x0, x1] w (retP Q) :=
  calls_of_cw (H := pithlaw19_DeltaBack.H) (c := pithlaw19_DeltaBack.c) (args := [x0, x1]) mixed Try.func5 (by kernel_rfl) (by kernel_rfl) (Nat.le_of_ble_eq_true (by kernel_rfl)) ((pithlaw19_DeltaBack.eq x0 x1 w Q).mpr h)

/-! pithlaw19_DeltaOne: pith/pithlaw19.DeltaOne; temporaries: 0:b 1:n 2:at 3:by 4:b 5:n 6:at 7:by 9:d 10:c 11:x 12:y 13:ok 14:u 15:v 16:also 17:i 18:diff 19:sum -/
def pithlaw19_DeltaOne.H : Hints := { cut := fun | 7 => some ([2], 33822867460) | 15 => some ([], 1329227995784906428170841320990703872) | 19 => some ([18], 141670994486089356673024) | 21 => some ([18], 19191697386382238148722688) | 24 => some ([19], 79208819701150503526749175808) | _ => none, loop := fun | 14 => ([17], 1329227995784915725329854470604849408) | _ => ([], 0), order := fun | 24 => [(0, 0), (1, 1), (2, 3), (3, 7), (4, 15), (5, 31), (6, 63), (7, 127), (8, 255), (9, 511), (10, 1023), (11, 2047), (12, 4095), (13, 8191), (14, 16383), (15, 32767), (16, 65535), (17, 131071), (18, 262143), (19, 524287), (20, 1048575), (21, 2097151), (22, 4194303), (23, 8388607)] | _ => [] }
def pithlaw19_DeltaOne.F (x0 : Value) (x1 : Value) (x2 : Value) (x3 : Value) (w : World) (Q : Value → World → Prop) : Prop :=
 pN Try.prog (oBi .len #[29] 3 [false] [x0]) w fun x21 w1 =>
 pN Try.prog (oBin .eql 3 (.tmp 21) (.const (.int .i64 0)) x21 (.int .i64 0)) w1 fun x22 w2 =>
 pIf x22
 (Q (.bool true) w2)
 (pN Try.prog (oCall 21 [x1]) w2 fun x24 w3 =>
 pN Try.prog (oBi .len #[29] 3 [false] [x0]) w3 fun x27 w4 =>
 pN Try.prog (oBin .rem 3 (.tmp 25) (.tmp 27) x2 x27) w4 fun x28 w5 =>
 ∃ I7 : Value → World → Prop,
 (pN Try.prog (oBin .lss 3 (.tmp 29) (.const (.int .i64 0)) x28 (.int .i64 0)) w5 fun x30 w6 =>
 pIf x30
 (pN Try.prog (oBi .len #[29] 3 [false] [x0]) w6 fun x33 w7 =>
 pN Try.prog (oBin .add 3 (.tmp 31) (.tmp 33) x28 x33) w7 fun x34 w8 =>
 I7 x34 w8)
 (I7 x28 w6)) ∧
 ∀ (_j7 : Env) (at2c7 : Value) (w9 : World), I7 at2c7 w9 →
 pN Try.prog (oBs 29 0 []) w9 fun x35 w10 =>
 pN Try.prog (oBi .append #[29, 29] 29 [false, false] [x35, x0]) w10 fun x37 w11 =>
 pN Try.prog (oIdx 29 x37 at2c7) w11 fun x42 w12 =>
 pN Try.prog (oLoad 5 x42) w12 fun x43 w13 =>
 pN Try.prog (oBin .add 5 (.tmp 43) (.tmp 44) x43 x3) w13 fun x45 w14 =>
 pN Try.prog (oIdx 29 x37 at2c7) w14 fun x46 w15 =>
 pN Try.prog (oStore 5 x46 x45) w15 fun _ w16 =>
 pN Try.prog (oCall 22 [x0, x24]) w16 fun x50 w17 =>
 pN Try.prog (oExt x50 0) w17 fun x51 w18 =>
 pN Try.prog (oExt x50 1) w18 fun x52 w19 =>
 pN Try.prog (oExt x50 2) w19 fun x53 w20 =>
 pN Try.prog (oCall 22 [x37, x24]) w20 fun x57 w21 =>
 pN Try.prog (oExt x57 0) w21 fun x58 w22 =>
 pN Try.prog (oExt x57 1) w22 fun x59 w23 =>
 pN Try.prog (oExt x57 2) w23 fun x60 w24 =>
 pN Try.prog (oUn .not x53) w24 fun x62 w25 =>
 pGd (gB x62 false) (pN Try.prog (oMv x60) w25) w25 fun x64 w26 =>
 pGd (gB x62 false) (pN Try.prog (oUn .not x64) w26) w26 fun x65 w27 =>
 pN Try.prog (oPick x62 (.bool true) x65) w27 fun x66 w28 =>
 pIf x66
 (Q (.bool false) w28)
 (∃ (L14 : Value → World → Prop) (m14 : Value → World → Nat),
 L14 (.int .i64 0) w28 ∧
 ∀ (_k14 : Env) (i17l14 : Value) (w29 : World), L14 i17l14 w29 →
 pN Try.prog (oBi .len #[29] 3 [false] [x0]) w29 fun x69 w30 =>
 pN Try.prog (oBin .lss 3 (.tmp 67) (.tmp 69) i17l14 x69) w30 fun x70 w31 =>
 pIf x70
 (∃ I15 : World → Prop,
 (∃ I19 : Value → World → Prop,
 (pN Try.prog (oBin .eql 3 (.tmp 73) (.tmp 74) i17l14 at2c7) w31 fun x75 w32 =>
 pIf x75
 (I19 x3 w32)
 (I19 (.int .u8 0) w32)) ∧
 ∀ (_j19 : Env) (diff18c19 : Value) (w33 : World), I19 diff18c19 w33 →
 ∃ I21 : Value → World → Prop,
 (pN Try.prog (oBin .add 3 (.tmp 78) (.tmp 79) at2c7 x24) w33 fun x80 w34 =>
 pN Try.prog (oBin .eql 3 (.tmp 77) (.tmp 80) i17l14 x80) w34 fun x81 w35 =>
 pIf x81
 (pN Try.prog (oUn .neg x3) w35 fun x83 w36 =>
 I21 x83 w36)
 (I21 diff18c19 w35)) ∧
 ∀ (_j21 : Env) (diff18c21 : Value) (w37 : World), I21 diff18c21 w37 →
 ∃ I24 : Value → World → Prop,
 (pN Try.prog (oBin .geq 3 (.tmp 84) (.tmp 85) i17l14 at2c7) w37 fun x86 w38 =>
 pGd (gB x86 true) (pN Try.prog (oMv i17l14) w38) w38 fun x88 w39 =>
 pGd (gB x86 true) (pN Try.prog (oMv at2c7) w39) w39 fun x89 w40 =>
 pGd (gB x86 true) (pN Try.prog (oBin .sub 3 (.tmp 88) (.tmp 89) x88 x89) w40) w40 fun x90 w41 =>
 pGd (gB x86 true) (pN Try.prog (oMv x24) w41) w41 fun x91 w42 =>
 pGd (gB x86 true) (pN Try.prog (oBin .rem 3 (.tmp 90) (.tmp 91) x90 x91) w42) w42 fun x92 w43 =>
 pGd (gB x86 true) (pN Try.prog (oBin .eql 3 (.tmp 92) (.const (.int .i64 0)) x92 (.int .i64 0)) w43) w43 fun x93 w44 =>
 pN Try.prog (oPick x86 x93 (.bool false)) w44 fun x94 w45 =>
 pIf x94
 (I24 x3 w45)
 (I24 (.int .u8 0) w45)) ∧
 ∀ (_j24 : Env) (sum19c24 : Value) (w46 : World), I24 sum19c24 w46 →
 pDr w46 fun w47 =>
 pA Try.prog (oIdx 29 x58 i17l14) fun x98 =>
 pL Try.prog (oLoad 5 x98) w47 fun x99 =>
 pA Try.prog (oIdx 29 x51 i17l14) fun x102 =>
 pL Try.prog (oLoad 5 x102) w47 fun x103 =>
 pA Try.prog (oBin .sub 5 (.tmp 99) (.tmp 103) x99 x103) fun x104 =>
 pA Try.prog (oBin .neq 5 (.tmp 104) (.tmp 105) x104 diff18c21) fun x106 =>
 gA (gB x106 false) (pA Try.prog (oMv x59)) fun x108 =>
 gA (gB x106 false) (pA Try.prog (oMv i17l14)) fun x109 =>
 gA (gB x106 false) (pA Try.prog (oIdx 29 x108 x109)) fun x110 =>
 gA (gB x106 false) (pL Try.prog (oLoad 5 x110) w47) fun x111 =>
 gA (gB x106 false) (pA Try.prog (oMv x52)) fun x112 =>
 gA (gB x106 false) (pA Try.prog (oMv i17l14)) fun x113 =>
 gA (gB x106 false) (pA Try.prog (oIdx 29 x112 x113)) fun x114 =>
 gA (gB x106 false) (pL Try.prog (oLoad 5 x114) w47) fun x115 =>
 gA (gB x106 false) (pA Try.prog (oBin .sub 5 (.tmp 111) (.tmp 115) x111 x115)) fun x116 =>
 gA (gB x106 false) (pA Try.prog (oMv sum19c24)) fun x117 =>
 gA (gB x106 false) (pA Try.prog (oBin .neq 5 (.tmp 116) (.tmp 117) x116 x117)) fun x118 =>
 pA Try.prog (oPick x106 (.bool true) x118) fun x119 =>
 pIf x119
 (Q (.bool false) w47)
 (I15 w47)) ∧
 ∀ (_j15 : Env) (w48 : World), I15 w48 →
 pN Try.prog (oBin .add 3 (.tmp 71) (.const (.int .i64 1)) i17l14 (.int .i64 1)) w48 fun x72 w49 =>
 (L14 x72 w49 ∧ m14 x72 w49 < m14 i17l14 w29))
 (Q (.bool true) w31)))
noncomputable def pithlaw19_DeltaOne.c : Code := match Try.f6.body with | some c => c | none => .skip
theorem pithlaw19_DeltaOne.eq (x0 : Value) (x1 : Value) (x2 : Value) (x3 : Value) (w : World) (Q : Value → World → Prop) : cw Try.prog pithlaw19_DeltaOne.H pithlaw19_DeltaOne.c (endQ Try.prog Try.f6.results.toList Q) (argsE [x0, x1, x2, x3]) w = pithlaw19_DeltaOne.F x0 x1 x2 x3 w Q := by kernel_rfl
theorem pithlaw19_DeltaOne.calls {x0 : Value} {x1 : Value} {x2 : Value} {x3 : Value} {w : World} {Q : Value → World → Prop} (h : pithlaw19_DeltaOne.F x0 x1 x2 x3 w Q) : Calls Try.prog 6 #[x0, x1, x2, x3] w (retP Q) :=
  calls_of_cw (H := pithlaw19_DeltaOne.H) (c := pithlaw19_DeltaOne.c) (args := [x0, x1, x2, x3]) mixed Try.func6 (by kernel_rfl) (by kernel_rfl) (Nat.le_of_ble_eq_true (by kernel_rfl)) ((pithlaw19_DeltaOne.eq x0 x1 x2 x3 w Q).mpr h)

/-! pithlaw19_DeltaRows: pith/pithlaw19.DeltaRows; temporaries: 0:row 1:times 2:row 3:times 5:b 6:i 7:x 8:_ 9:ok 10:i 11:want -/
def pithlaw19_DeltaRows.H : Hints := { cut := fun | 13 => some ([], 73782472695210838032) | 17 => some ([11], 1148417904979478528) | _ => none, loop := fun | 5 => ([5, 6], 68451041376) | 12 => ([10], 73786905926094031888) | _ => ([], 0), order := fun  | _ => [] }
def pithlaw19_DeltaRows.F (x0 : Value) (x1 : Value) (w : World) (Q : Value → World → Prop) : Prop :=
 pN Try.prog (oBi .len #[29] 3 [false] [x0]) w fun x13 w1 =>
 pN Try.prog (oBin .eql 3 (.tmp 13) (.const (.int .i64 0)) x13 (.int .i64 0)) w1 fun x14 w2 =>
 pGd (gB x14 false) (pN Try.prog (oMv x0) w2) w2 fun x16 w3 =>
 pGd (gB x14 false) (pN Try.prog (oBi .len #[29] 3 [false] [x16]) w3) w3 fun x17 w4 =>
 pGd (gB x14 false) (pN Try.prog (oBin .gtr 3 (.tmp 17) (.const (.int .i64 256)) x17 (.int .i64 256)) w4) w4 fun x18 w5 =>
 pN Try.prog (oPick x14 (.bool true) x18) w5 fun x19 w6 =>
 pGd (gB x19 false) (pN Try.prog (oMv x1) w6) w6 fun x21 w7 =>
 pGd (gB x19 false) (pN Try.prog (oBin .lss 3 (.tmp 21) (.const (.int .i64 0)) x21 (.int .i64 0)) w7) w7 fun x22 w8 =>
 pN Try.prog (oPick x19 (.bool true) x22) w8 fun x23 w9 =>
 pGd (gB x23 false) (pN Try.prog (oMv x1) w9) w9 fun x25 w10 =>
 pGd (gB x23 false) (pN Try.prog (oBin .gtr 3 (.tmp 25) (.const (.int .i64 20)) x25 (.int .i64 20)) w10) w10 fun x26 w11 =>
 pN Try.prog (oPick x23 (.bool true) x26) w11 fun x27 w12 =>
 pIf x27
 (Q (.bool true) w12)
 (∃ (L5 : Value → Value → World → Prop) (m5 : Value → Value → World → Nat),
 L5 (.slice none 0 0) (.int .i64 0) w12 ∧
 ∀ (_k5 : Env) (b5l5 : Value) (i6l5 : Value) (w13 : World), L5 b5l5 i6l5 w13 →
 pN Try.prog (oBin .lss 3 (.tmp 28) (.tmp 29) i6l5 x1) w13 fun x30 w14 =>
 pIf x30
 (pN Try.prog (oBi .append #[29, 29] 29 [false, false] [b5l5, x0]) w14 fun x35 w15 =>
 pN Try.prog (oBin .add 3 (.tmp 31) (.const (.int .i64 1)) i6l5 (.int .i64 1)) w15 fun x32 w16 =>
 (L5 x35 x32 w16 ∧ m5 x35 x32 w16 < m5 b5l5 i6l5 w13))
 (pN Try.prog (oBi .len #[29] 3 [false] [x0]) w14 fun x39 w17 =>
 pN Try.prog (oCall 22 [b5l5, x39]) w17 fun x40 w18 =>
 pN Try.prog (oExt x40 0) w18 fun x41 w19 =>
 pN Try.prog (oExt x40 1) w19 fun _ w20 =>
 pN Try.prog (oExt x40 2) w20 fun x43 w21 =>
 pN Try.prog (oUn .not x43) w21 fun x45 w22 =>
 pIf x45
 (Q (.bool false) w22)
 (∃ (L12 : Value → World → Prop) (m12 : Value → World → Nat),
 L12 (.int .i64 0) w22 ∧
 ∀ (_k12 : Env) (i10l12 : Value) (w23 : World), L12 i10l12 w23 →
 pN Try.prog (oBi .len #[29] 3 [false] [x41]) w23 fun x48 w24 =>
 pN Try.prog (oBin .lss 3 (.tmp 46) (.tmp 48) i10l12 x48) w24 fun x49 w25 =>
 pIf x49
 (∃ I13 : World → Prop,
 (∃ I17 : Value → World → Prop,
 (pN Try.prog (oBi .len #[29] 3 [false] [x0]) w25 fun x54 w26 =>
 pN Try.prog (oBin .lss 3 (.tmp 52) (.tmp 54) i10l12 x54) w26 fun x55 w27 =>
 pIf x55
 (pN Try.prog (oIdx 29 x0 i10l12) w27 fun x58 w28 =>
 pN Try.prog (oLoad 5 x58) w28 fun x59 w29 =>
 I17 x59 w29)
 (I17 (.int .u8 0) w27)) ∧
 ∀ (_j17 : Env) (want11c17 : Value) (w30 : World), I17 want11c17 w30 →
 pN Try.prog (oIdx 29 x41 i10l12) w30 fun x62 w31 =>
 pN Try.prog (oLoad 5 x62) w31 fun x63 w32 =>
 pN Try.prog (oBin .neq 5 (.tmp 63) (.tmp 64) x63 want11c17) w32 fun x65 w33 =>
 pIf x65
 (Q (.bool false) w33)
 (I13 w33)) ∧
 ∀ (_j13 : Env) (w34 : World), I13 w34 →
 pN Try.prog (oBin .add 3 (.tmp 50) (.const (.int .i64 1)) i10l12 (.int .i64 1)) w34 fun x51 w35 =>
 (L12 x51 w35 ∧ m12 x51 w35 < m12 i10l12 w23))
 (pN Try.prog (oBin .gtr 3 (.tmp 66) (.const (.int .i64 0)) x1 (.int .i64 0)) w25 fun x67 w36 =>
 pN Try.prog (oBi .len #[29] 3 [false] [x41]) w36 fun x69 w37 =>
 pN Try.prog (oBin .gtr 3 (.tmp 69) (.const (.int .i64 0)) x69 (.int .i64 0)) w37 fun x70 w38 =>
 pN Try.prog (oBin .eql 4 (.tmp 67) (.tmp 70) x67 x70) w38 fun x71 w39 =>
 Q x71 w39))))
noncomputable def pithlaw19_DeltaRows.c : Code := match Try.f7.body with | some c => c | none => .skip
theorem pithlaw19_DeltaRows.eq (x0 : Value) (x1 : Value) (w : World) (Q : Value → World → Prop) : cw Try.prog pithlaw19_DeltaRows.H pithlaw19_DeltaRows.c (endQ Try.prog Try.f7.results.toList Q) (argsE [x0, x1]) w = pithlaw19_DeltaRows.F x0 x1 w Q := by kernel_rfl
theorem pithlaw19_DeltaRows.calls {x0 : Value} {x1 : Value} {w : World} {Q : Value → World → Prop} (h : pithlaw19_DeltaRows.F x0 x1 w Q) : Calls Try.prog 7 #[x0, x1] w (retP Q) :=
  calls_of_cw (H := pithlaw19_DeltaRows.H) (c := pithlaw19_DeltaRows.c) (args := [x0, x1]) mixed Try.func7 (by kernel_rfl) (by kernel_rfl) (Nat.le_of_ble_eq_true (by kernel_rfl)) ((pithlaw19_DeltaRows.eq x0 x1 w Q).mpr h)

/-! pithlaw19_DeltaCuts: pith/pithlaw19.DeltaCuts; temporaries: 0:b 1:n 2:cuts 3:b 4:n 5:cuts 7:d 8:f 9:e 10:g 11:h 12:x 13:y 14:ok 15:u 16:v 17:at 18:_ 19:k -/
def pithlaw19_DeltaCuts.H : Hints := { cut := fun | 15 => some ([19], 285924533142498574336) | 19 => some ([15, 16, 17], 5070602400910611762977599881216) | _ => none, loop := fun | 11 => ([15, 16, 17, 59], 10141204801825258751221322973184) | _ => ([], 0), order := fun  | _ => [] }
def pithlaw19_DeltaCuts.F (x0 : Value) (x1 : Value) (x2 : Value) (w : World) (Q : Value → World → Prop) : Prop :=
 pN Try.prog (oCall 21 [x1]) w fun x21 w1 =>
 pN Try.prog (oCall 9 [x21, (.bool false)]) w1 fun x24 w2 =>
 pN Try.prog (oExt x24 0) w2 fun x25 w3 =>
 pN Try.prog (oExt x24 1) w3 fun x26 w4 =>
 pN Try.prog (oCall 9 [x21, (.bool true)]) w4 fun x29 w5 =>
 pN Try.prog (oExt x29 0) w5 fun x30 w6 =>
 pN Try.prog (oExt x29 1) w6 fun x31 w7 =>
 pN Try.prog (oCall 22 [x0, x21]) w7 fun x35 w8 =>
 pN Try.prog (oExt x35 0) w8 fun x36 w9 =>
 pN Try.prog (oExt x35 1) w9 fun x37 w10 =>
 pN Try.prog (oExt x35 2) w10 fun x38 w11 =>
 pN Try.prog (oBin .neq 24 (.tmp 39) (.const (.int .i64 0)) x26 (.int .i64 0)) w11 fun x40 w12 =>
 pGd (gB x40 false) (pN Try.prog (oMv x31) w12) w12 fun x42 w13 =>
 pGd (gB x40 false) (pN Try.prog (oBin .neq 24 (.tmp 42) (.const (.int .i64 0)) x42 (.int .i64 0)) w13) w13 fun x43 w14 =>
 pN Try.prog (oPick x40 (.bool true) x43) w14 fun x44 w15 =>
 pGd (gB x44 false) (pN Try.prog (oMv x25) w15) w15 fun x46 w16 =>
 pGd (gB x44 false) (pN Try.prog (oBin .eql 23 (.tmp 46) (.const (.pointer none)) x46 (.pointer none)) w16) w16 fun x47 w17 =>
 pN Try.prog (oPick x44 (.bool true) x47) w17 fun x48 w18 =>
 pGd (gB x48 false) (pN Try.prog (oMv x30) w18) w18 fun x50 w19 =>
 pGd (gB x48 false) (pN Try.prog (oBin .eql 23 (.tmp 50) (.const (.pointer none)) x50 (.pointer none)) w19) w19 fun x51 w20 =>
 pN Try.prog (oPick x48 (.bool true) x51) w20 fun x52 w21 =>
 pGd (gB x52 false) (pN Try.prog (oMv x38) w21) w21 fun x54 w22 =>
 pGd (gB x52 false) (pN Try.prog (oUn .not x54) w22) w22 fun x55 w23 =>
 pN Try.prog (oPick x52 (.bool true) x55) w23 fun x56 w24 =>
 pIf x56
 (Q (.bool false) w24)
 (pN Try.prog (oBi .len #[53] 3 [false] [x2]) w24 fun x58 w25 =>
 ∃ (L11 : Value → Value → Value → Value → World → Prop) (m11 : Value → Value → Value → Value → World → Nat),
 L11 (.slice none 0 0) (.slice none 0 0) (.int .i64 0) (.int .i64 0) w25 ∧
 ∀ (_k11 : Env) (u15l11 : Value) (v16l11 : Value) (at17l11 : Value) (v59l11 : Value) (w26 : World), L11 u15l11 v16l11 at17l11 v59l11 w26 →
 pN Try.prog (oBin .lss 3 (.tmp 59) (.tmp 58) v59l11 x58) w26 fun x60 w27 =>
 pIf x60
 (∃ I19 : Value → Value → Value → World → Prop,
 (pN Try.prog (oIdx 53 x2 v59l11) w27 fun x61 w28 =>
 pN Try.prog (oLoad 3 x61) w28 fun x62 w29 =>
 ∃ I15 : Value → World → Prop,
 (pN Try.prog (oBin .lss 3 (.tmp 63) (.const (.int .i64 0)) x62 (.int .i64 0)) w29 fun x64 w30 =>
 pIf x64
 (pN Try.prog (oBin .add 3 (.tmp 65) (.const (.int .i64 1)) x62 (.int .i64 1)) w30 fun x66 w31 =>
 pN Try.prog (oUn .neg x66) w31 fun x67 w32 =>
 I15 x67 w32)
 (I15 x62 w30)) ∧
 ∀ (_j15 : Env) (k19c15 : Value) (w33 : World), I15 k19c15 w33 →
 pN Try.prog (oBi .len #[29] 3 [false] [x0]) w33 fun x70 w34 =>
 pN Try.prog (oBin .sub 3 (.tmp 70) (.tmp 71) x70 at17l11) w34 fun x72 w35 =>
 pN Try.prog (oBin .add 3 (.tmp 72) (.const (.int .i64 1)) x72 (.int .i64 1)) w35 fun x73 w36 =>
 pN Try.prog (oBin .rem 3 (.tmp 68) (.tmp 73) k19c15 x73) w36 fun x74 w37 =>
 pN Try.prog (oBs 29 0 []) w37 fun x77 w38 =>
 pN Try.prog (oBin .add 3 (.tmp 80) (.tmp 81) at17l11 x74) w38 fun x82 w39 =>
 pN Try.prog (oSl 29 x0 (some at17l11) (some x82) none) w39 fun x83 w40 =>
 pN Try.prog (oBi .append #[29, 29] 29 [false, false] [x77, x83]) w40 fun x84 w41 =>
 pN Try.prog (oCall 12 [x25, x84]) w41 fun x85 w42 =>
 pN Try.prog (oBi .append #[29, 29] 29 [false, false] [u15l11, x85]) w42 fun x86 w43 =>
 pN Try.prog (oBs 29 0 []) w43 fun x89 w44 =>
 pN Try.prog (oBin .add 3 (.tmp 92) (.tmp 93) at17l11 x74) w44 fun x94 w45 =>
 pN Try.prog (oSl 29 x0 (some at17l11) (some x94) none) w45 fun x95 w46 =>
 pN Try.prog (oBi .append #[29, 29] 29 [false, false] [x89, x95]) w46 fun x96 w47 =>
 pN Try.prog (oCall 12 [x30, x96]) w47 fun x97 w48 =>
 pN Try.prog (oBi .append #[29, 29] 29 [false, false] [v16l11, x97]) w48 fun x98 w49 =>
 pN Try.prog (oBin .add 3 (.tmp 99) (.tmp 100) at17l11 x74) w49 fun x101 w50 =>
 I19 x86 x98 x101 w50) ∧
 ∀ (_j19 : Env) (u15c19 : Value) (v16c19 : Value) (at17c19 : Value) (w51 : World), I19 u15c19 v16c19 at17c19 w51 →
 pN Try.prog (oBin .add 3 (.tmp 59) (.const (.int .i64 1)) v59l11 (.int .i64 1)) w51 fun x102 w52 =>
 (L11 u15c19 v16c19 at17c19 x102 w52 ∧ m11 u15c19 v16c19 at17c19 x102 w52 < m11 u15l11 v16l11 at17l11 v59l11 w26))
 (pN Try.prog (oBs 29 0 []) w27 fun x105 w53 =>
 pN Try.prog (oSl 29 x0 (some at17l11) none none) w53 fun x108 w54 =>
 pN Try.prog (oBi .append #[29, 29] 29 [false, false] [x105, x108]) w54 fun x109 w55 =>
 pN Try.prog (oCall 12 [x25, x109]) w55 fun x110 w56 =>
 pN Try.prog (oBi .append #[29, 29] 29 [false, false] [u15l11, x110]) w56 fun x111 w57 =>
 pN Try.prog (oBs 29 0 []) w57 fun x114 w58 =>
 pN Try.prog (oSl 29 x0 (some at17l11) none none) w58 fun x117 w59 =>
 pN Try.prog (oBi .append #[29, 29] 29 [false, false] [x114, x117]) w59 fun x118 w60 =>
 pN Try.prog (oCall 12 [x30, x118]) w60 fun x119 w61 =>
 pN Try.prog (oBi .append #[29, 29] 29 [false, false] [v16l11, x119]) w61 fun x120 w62 =>
 pN Try.prog (oConv 29 9 x111) w62 fun x122 w63 =>
 pN Try.prog (oConv 29 9 x36) w63 fun x124 w64 =>
 pN Try.prog (oBin .eql 9 (.tmp 122) (.tmp 124) x122 x124) w64 fun x125 w65 =>
 pGd (gB x125 true) (pN Try.prog (oMv x120) w65) w65 fun x127 w66 =>
 pGd (gB x125 true) (pN Try.prog (oConv 29 9 x127) w66) w66 fun x128 w67 =>
 pGd (gB x125 true) (pN Try.prog (oMv x37) w67) w67 fun x129 w68 =>
 pGd (gB x125 true) (pN Try.prog (oConv 29 9 x129) w68) w68 fun x130 w69 =>
 pGd (gB x125 true) (pN Try.prog (oBin .eql 9 (.tmp 128) (.tmp 130) x128 x130) w69) w69 fun x131 w70 =>
 pN Try.prog (oPick x125 x131 (.bool false)) w70 fun x132 w71 =>
 Q x132 w71))
noncomputable def pithlaw19_DeltaCuts.c : Code := match Try.f8.body with | some c => c | none => .skip
theorem pithlaw19_DeltaCuts.eq (x0 : Value) (x1 : Value) (x2 : Value) (w : World) (Q : Value → World → Prop) : cw Try.prog pithlaw19_DeltaCuts.H pithlaw19_DeltaCuts.c (endQ Try.prog Try.f8.results.toList Q) (argsE [x0, x1, x2]) w = pithlaw19_DeltaCuts.F x0 x1 x2 w Q := by kernel_rfl
theorem pithlaw19_DeltaCuts.calls {x0 : Value} {x1 : Value} {x2 : Value} {w : World} {Q : Value → World → Prop} (h : pithlaw19_DeltaCuts.F x0 x1 x2 w Q) : Calls Try.prog 8 #[x0, x1, x2] w (retP Q) :=
  calls_of_cw (H := pithlaw19_DeltaCuts.H) (c := pithlaw19_DeltaCuts.c) (args := [x0, x1, x2]) mixed Try.func8 (by kernel_rfl) (by kernel_rfl) (Nat.le_of_ble_eq_true (by kernel_rfl)) ((pithlaw19_DeltaCuts.eq x0 x1 x2 w Q).mpr h)

/-! delta_New: pith/delta.New; temporaries: 0:dist 1:back 2:dist 3:back -/
def delta_New.H : Hints := { cut := fun  | _ => none, loop := fun  | _ => ([], 0), order := fun  | _ => [] }
def delta_New.F (x0 : Value) (x1 : Value) (w : World) (Q : Value → World → Prop) : Prop :=
 pN Try.prog (oBin .lss 3 (.tmp 6) (.const (.int .i64 1)) x0 (.int .i64 1)) w fun x7 w1 =>
 pGd (gB x7 false) (pN Try.prog (oMv x0) w1) w1 fun x9 w2 =>
 pGd (gB x7 false) (pN Try.prog (oBin .gtr 3 (.tmp 9) (.const (.int .i64 256)) x9 (.int .i64 256)) w2) w2 fun x10 w3 =>
 pN Try.prog (oPick x7 (.bool true) x10) w3 fun x11 w4 =>
 pIf x11
 (Q (.tuple #[(.pointer none), (.int .i64 6)]) w4)
 (pN Try.prog (oBuild 57 [(2, x0), (3, x1)]) w4 fun x14 w5 =>
 pN Try.prog (oBox 57 x14) w5 fun x15 w6 =>
 Q (.tuple #[x15, (.int .i64 0)]) w6)
noncomputable def delta_New.c : Code := match Try.f9.body with | some c => c | none => .skip
theorem delta_New.eq (x0 : Value) (x1 : Value) (w : World) (Q : Value → World → Prop) : cw Try.prog delta_New.H delta_New.c (endQ Try.prog Try.f9.results.toList Q) (argsE [x0, x1]) w = delta_New.F x0 x1 w Q := by kernel_rfl
theorem delta_New.calls {x0 : Value} {x1 : Value} {w : World} {Q : Value → World → Prop} (h : delta_New.F x0 x1 w Q) : Calls Try.prog 9 #[x0, x1] w (retP Q) :=
  calls_of_cw (H := delta_New.H) (c := delta_New.c) (args := [x0, x1]) mixed Try.func9 (by kernel_rfl) (by kernel_rfl) (Nat.le_of_ble_eq_true (by kernel_rfl)) ((delta_New.eq x0 x1 w Q).mpr h)

/-! pithref19_Good: pith/pithref19.Good; temporaries: 0:dist 1:dist -/
def pithref19_Good.H : Hints := { cut := fun  | _ => none, loop := fun  | _ => ([], 0), order := fun  | _ => [] }
def pithref19_Good.F (x0 : Value) (w : World) (Q : Value → World → Prop) : Prop :=
 pN Try.prog (oBin .gtr 3 (.tmp 3) (.const (.int .i64 0)) x0 (.int .i64 0)) w fun x4 w1 =>
 pGd (gB x4 true) (pN Try.prog (oMv x0) w1) w1 fun x6 w2 =>
 pGd (gB x4 true) (pN Try.prog (oBin .leq 3 (.tmp 6) (.const (.int .i64 256)) x6 (.int .i64 256)) w2) w2 fun x7 w3 =>
 pN Try.prog (oPick x4 x7 (.bool false)) w3 fun x8 w4 =>
 Q x8 w4
noncomputable def pithref19_Good.c : Code := match Try.f10.body with | some c => c | none => .skip
theorem pithref19_Good.eq (x0 : Value) (w : World) (Q : Value → World → Prop) : cw Try.prog pithref19_Good.H pithref19_Good.c (endQ Try.prog Try.f10.results.toList Q) (argsE [x0]) w = pithref19_Good.F x0 w Q := by kernel_rfl
theorem pithref19_Good.calls {x0 : Value} {w : World} {Q : Value → World → Prop} (h : pithref19_Good.F x0 w Q) : Calls Try.prog 10 #[x0] w (retP Q) :=
  calls_of_cw (H := pithref19_Good.H) (c := pithref19_Good.c) (args := [x0]) mixed Try.func10 (by kernel_rfl) (by kernel_rfl) (Nat.le_of_ble_eq_true (by kernel_rfl)) ((pithref19_Good.eq x0 w Q).mpr h)

/-! pithlaw19_lent: pith/pithlaw19.lent; temporaries: 0:b 1:b 4:full -/
def pithlaw19_lent.H : Hints := { cut := fun  | _ => none, loop := fun  | _ => ([], 0), order := fun  | _ => [] }
def pithlaw19_lent.F (x0 : Value) (w : World) (Q : Value → World → Prop) : Prop :=
 pN Try.prog (oBs 29 0 []) w fun x5 w1 =>
 pN Try.prog (oBi .append #[29, 29] 29 [false, false] [x5, x0]) w1 fun x7 w2 =>
 pN Try.prog (oBs 29 1 [(0, (.int .u8 165))]) w2 fun x9 w3 =>
 pN Try.prog (oBi .append #[29, 29] 29 [false, false] [x7, x9]) w3 fun x10 w4 =>
 pN Try.prog (oBi .len #[29] 3 [false] [x0]) w4 fun x13 w5 =>
 pN Try.prog (oSl 29 x10 none (some x13) none) w5 fun x14 w6 =>
 Q (.tuple #[x14, x10]) w6
noncomputable def pithlaw19_lent.c : Code := match Try.f11.body with | some c => c | none => .skip
theorem pithlaw19_lent.eq (x0 : Value) (w : World) (Q : Value → World → Prop) : cw Try.prog pithlaw19_lent.H pithlaw19_lent.c (endQ Try.prog Try.f11.results.toList Q) (argsE [x0]) w = pithlaw19_lent.F x0 w Q := by kernel_rfl
theorem pithlaw19_lent.calls {x0 : Value} {w : World} {Q : Value → World → Prop} (h : pithlaw19_lent.F x0 w Q) : Calls Try.prog 11 #[x0] w (retP Q) :=
  calls_of_cw (H := pithlaw19_lent.H) (c := pithlaw19_lent.c) (args := [x0]) mixed Try.func11 (by kernel_rfl) (by kernel_rfl) (Nat.le_of_ble_eq_true (by kernel_rfl)) ((pithlaw19_lent.eq x0 w Q).mpr h)

/-! delta_Filter_Next: (*pith/delta.Filter).Next; temporaries: 0:f 1:b 2:f 3:b 5:out 6:i 7:c 8:old 9:plain -/
def delta_Filter_Next.H : Hints := { cut := fun | 11 => some ([9], 18014261070529024) | 13 => some ([], 4722366482869645083584) | _ => none, loop := fun | 3 => ([15], 9444732965739290395584) | _ => ([], 0), order := fun | 5 => [(0, 0), (1, 1), (2, 3), (3, 7), (4, 15), (5, 31), (6, 63), (7, 127), (8, 255), (9, 511), (10, 1023), (11, 2047), (12, 4095), (13, 8191), (14, 16383), (15, 32767), (16, 65535)] | 11 => [(0, 0), (1, 1), (2, 3), (3, 7), (4, 15), (5, 31), (6, 63), (7, 127), (8, 255), (9, 511)] | _ => [] }
def delta_Filter_Next.F (x0 : Value) (x1 : Value) (w : World) (Q : Value → World → Prop) : Prop :=
 pN Try.prog (oBi .len #[29] 3 [false] [x1]) w fun x11 w1 =>
 pN Try.prog (oMk 29 x11 x11) w1 fun x12 w2 =>
 pN Try.prog (oBi .len #[29] 3 [false] [x1]) w2 fun x14 w3 =>
 ∃ (L3 : Value → World → Prop) (m3 : Value → World → Nat),
 L3 (.int .i64 0) w3 ∧
 ∀ (_k3 : Env) (v15l3 : Value) (w4 : World), L3 v15l3 w4 →
 pN Try.prog (oBin .lss 3 (.tmp 15) (.tmp 14) v15l3 x14) w4 fun x16 w5 =>
 pIf x16
 (∃ I13 : World → Prop,
 (pN Try.prog (oIdx 29 x1 v15l3) w5 fun x18 w6 =>
 pN Try.prog (oLoad 5 x18) w6 fun x19 w7 =>
 pDr w7 fun w8 =>
 pA Try.prog (oNil x0) fun x22 =>
 pA Try.prog (oFld 57 x22 1) fun x23 =>
 pL Try.prog (oLoad 3 x23) w8 fun x24 =>
 pA Try.prog (oBin .add 3 (.tmp 24) (.const (.int .i64 256)) x24 (.int .i64 256)) fun x25 =>
 pA Try.prog (oNil x0) fun x27 =>
 pA Try.prog (oFld 57 x27 2) fun x28 =>
 pL Try.prog (oLoad 3 x28) w8 fun x29 =>
 pA Try.prog (oBin .sub 3 (.tmp 25) (.tmp 29) x25 x29) fun x30 =>
 pA Try.prog (oBin .rem 3 (.tmp 30) (.const (.int .i64 256)) x30 (.int .i64 256)) fun x31 =>
 pA Try.prog (oNil x0) fun x32 =>
 pA Try.prog (oFld 57 x32 0) fun x33 =>
 pA Try.prog (oIdx 55 x33 x31) fun x34 =>
 pL Try.prog (oLoad 5 x34) w8 fun x35 =>
 ∃ I11 : Value → World → Prop,
 (pN Try.prog (oNil x0) w8 fun x38 w9 =>
 pN Try.prog (oFld 57 x38 3) w9 fun x39 w10 =>
 pN Try.prog (oLoad 4 x39) w10 fun x40 w11 =>
 pIf x40
 (pN Try.prog (oBin .add 5 (.tmp 41) (.tmp 42) x19 x35) w11 fun x43 w12 =>
 pN Try.prog (oIdx 29 x12 v15l3) w12 fun x47 w13 =>
 pN Try.prog (oStore 5 x47 x43) w13 fun _ w14 =>
 I11 x43 w14)
 (pN Try.prog (oBin .sub 5 (.tmp 50) (.tmp 51) x19 x35) w11 fun x52 w15 =>
 pN Try.prog (oIdx 29 x12 v15l3) w15 fun x53 w16 =>
 pN Try.prog (oStore 5 x53 x52) w16 fun _ w17 =>
 I11 x19 w17)) ∧
 ∀ (_j11 : Env) (plain9c11 : Value) (w18 : World), I11 plain9c11 w18 →
 pDr w18 fun w19 =>
 pA Try.prog (oNil x0) fun x56 =>
 pA Try.prog (oFld 57 x56 1) fun x57 =>
 pL Try.prog (oLoad 3 x57) w19 fun x58 =>
 pA Try.prog (oNil x0) fun x60 =>
 pA Try.prog (oFld 57 x60 0) fun x61 =>
 pA Try.prog (oIdx 55 x61 x58) fun x62 =>
 pN Try.prog (oStore 5 x62 plain9c11) w19 fun _ w20 =>
 (True) ∧ (pN Try.prog (oNil x0) w20 fun x65 w21 =>
 pN Try.prog (oFld 57 x65 1) w21 fun x66 w22 =>
 pN Try.prog (oLoad 3 x66) w22 fun x67 w23 =>
 pN Try.prog (oBin .add 3 (.tmp 67) (.const (.int .i64 1)) x67 (.int .i64 1)) w23 fun x68 w24 =>
 pN Try.prog (oBin .rem 3 (.tmp 68) (.const (.int .i64 256)) x68 (.int .i64 256)) w24 fun x69 w25 =>
 pN Try.prog (oNil x0) w25 fun x70 w26 =>
 pN Try.prog (oFld 57 x70 1) w26 fun x71 w27 =>
 pN Try.prog (oStore 3 x71 x69) w27 fun _ w28 =>
 I13 w28)) ∧
 ∀ (_j13 : Env) (w29 : World), I13 w29 →
 pN Try.prog (oBin .add 3 (.tmp 15) (.const (.int .i64 1)) v15l3 (.int .i64 1)) w29 fun x72 w30 =>
 (L3 x72 w30 ∧ m3 x72 w30 < m3 v15l3 w4))
 (Q x12 w5)
noncomputable def delta_Filter_Next.c : Code := match Try.f12.body with | some c => c | none => .skip
theorem delta_Filter_Next.eq (x0 : Value) (x1 : Value) (w : World) (Q : Value → World → Prop) : cw Try.prog delta_Filter_Next.H delta_Filter_Next.c (endQ Try.prog Try.f12.results.toList Q) (argsE [x0, x1]) w = delta_Filter_Next.F x0 x1 w Q := by kernel_rfl
theorem delta_Filter_Next.calls {x0 : Value} {x1 : Value} {w : World} {Q : Value → World → Prop} (h : delta_Filter_Next.F x0 x1 w Q) : Calls Try.prog 12 #[x0, x1] w (retP Q) :=
  calls_of_cw (H := delta_Filter_Next.H) (c := delta_Filter_Next.c) (args := [x0, x1]) mixed Try.func12 (by kernel_rfl) (by kernel_rfl) (Nat.le_of_ble_eq_true (by kernel_rfl)) ((delta_Filter_Next.eq x0 x1 w Q).mpr h)

/-! pithref19_Filter_Next: (*pith/pithref19.Filter).Next; temporaries: 0:f 1:b 2:f 3:b 5:n 6:out 7:_ -/
def pithref19_Filter_Next.H : Hints := { cut := fun  | _ => none, loop := fun  | _ => ([], 0), order := fun | 3 => [(0, 0), (1, 1), (2, 3), (3, 7), (4, 15), (5, 31), (6, 63), (7, 127), (8, 255), (9, 511), (10, 1023), (11, 2047), (12, 4095), (13, 8191), (14, 16383), (15, 32767), (16, 65535), (17, 131071)] | _ => [] }
def pithref19_Filter_Next.F (x0 : Value) (x1 : Value) (w : World) (Q : Value → World → Prop) : Prop :=
 pN Try.prog (oNil x0) w fun x9 w1 =>
 pN Try.prog (oFld 31 x9 2) w1 fun x10 w2 =>
 pN Try.prog (oLoad 29 x10) w2 fun x11 w3 =>
 pN Try.prog (oBi .len #[29] 3 [false] [x11]) w3 fun x12 w4 =>
 pN Try.prog (oNil x0) w4 fun x15 w5 =>
 pN Try.prog (oFld 31 x15 2) w5 fun x16 w6 =>
 pN Try.prog (oLoad 29 x16) w6 fun x17 w7 =>
 pN Try.prog (oBi .append #[29, 29] 29 [false, false] [x17, x1]) w7 fun x19 w8 =>
 pN Try.prog (oNil x0) w8 fun x20 w9 =>
 pN Try.prog (oFld 31 x20 2) w9 fun x21 w10 =>
 pN Try.prog (oStore 29 x21 x19) w10 fun _ w11 =>
 pDr w11 fun w12 =>
 pA Try.prog (oNil x0) fun x24 =>
 pA Try.prog (oFld 31 x24 2) fun x25 =>
 pL Try.prog (oLoad 29 x25) w12 fun x26 =>
 pA Try.prog (oNil x0) fun x28 =>
 pA Try.prog (oFld 31 x28 0) fun x29 =>
 pL Try.prog (oLoad 3 x29) w12 fun x30 =>
 pA Try.prog (oNil x0) fun x32 =>
 pA Try.prog (oFld 31 x32 1) fun x33 =>
 pL Try.prog (oLoad 4 x33) w12 fun x34 =>
 pN Try.prog (oCall 19 [x26, x30, x34]) w12 fun x35 w13 =>
 (True) ∧ (pA Try.prog (oExt x35 0) fun x36 =>
 pA Try.prog (oExt x35 1) fun _ =>
 pN Try.prog (oSl 29 x36 (some x12) none none) w13 fun x40 w14 =>
 Q x40 w14)
noncomputable def pithref19_Filter_Next.c : Code := match Try.f13.body with | some c => c | none => .skip
theorem pithref19_Filter_Next.eq (x0 : Value) (x1 : Value) (w : World) (Q : Value → World → Prop) : cw Try.prog pithref19_Filter_Next.H pithref19_Filter_Next.c (endQ Try.prog Try.f13.results.toList Q) (argsE [x0, x1]) w = pithref19_Filter_Next.F x0 x1 w Q := by kernel_rfl
theorem pithref19_Filter_Next.calls {x0 : Value} {x1 : Value} {w : World} {Q : Value → World → Prop} (h : pithref19_Filter_Next.F x0 x1 w Q) : Calls Try.prog 13 #[x0, x1] w (retP Q) :=
  calls_of_cw (H := pithref19_Filter_Next.H) (c := pithref19_Filter_Next.c) (args := [x0, x1]) mixed Try.func13 (by kernel_rfl) (by kernel_rfl) (Nat.le_of_ble_eq_true (by kernel_rfl)) ((pithref19_Filter_Next.eq x0 x1 w Q).mpr h)

/-! pithlaw19_kept: pith/pithlaw19.kept; temporaries: 0:full 1:b 2:full 3:b -/
def pithlaw19_kept.H : Hints := { cut := fun  | _ => none, loop := fun  | _ => ([], 0), order := fun | 1 => [(0, 0), (1, 1), (2, 3), (3, 7), (4, 15), (5, 31), (6, 63), (7, 127), (8, 255), (9, 511), (10, 1023), (11, 2047), (12, 4095), (13, 8191), (14, 16383), (15, 32767), (16, 65535)] | _ => [] }
def pithlaw19_kept.F (x0 : Value) (x1 : Value) (w : World) (Q : Value → World → Prop) : Prop :=
 pDr w fun w1 =>
 pA Try.prog (oBi .len #[29] 3 [false] [x1]) fun x7 =>
 pA Try.prog (oSl 29 x0 none (some x7) none) fun x8 =>
 pL Try.prog (oConv 29 9 x8) w1 fun x9 =>
 pL Try.prog (oConv 29 9 x1) w1 fun x11 =>
 pA Try.prog (oBin .eql 9 (.tmp 9) (.tmp 11) x9 x11) fun x12 =>
 gA (gB x12 true) (pA Try.prog (oMv x0)) fun x14 =>
 gA (gB x12 true) (pA Try.prog (oMv x1)) fun x15 =>
 gA (gB x12 true) (pA Try.prog (oBi .len #[29] 3 [false] [x15])) fun x16 =>
 gA (gB x12 true) (pA Try.prog (oIdx 29 x14 x16)) fun x17 =>
 gA (gB x12 true) (pL Try.prog (oLoad 5 x17) w1) fun x18 =>
 gA (gB x12 true) (pA Try.prog (oBin .eql 5 (.tmp 18) (.const (.int .u8 165)) x18 (.int .u8 165))) fun x19 =>
 pA Try.prog (oPick x12 x19 (.bool false)) fun x20 =>
 Q x20 w1
noncomputable def pithlaw19_kept.c : Code := match Try.f14.body with | some c => c | none => .skip
theorem pithlaw19_kept.eq (x0 : Value) (x1 : Value) (w : World) (Q : Value → World → Prop) : cw Try.prog pithlaw19_kept.H pithlaw19_kept.c (endQ Try.prog Try.f14.results.toList Q) (argsE [x0, x1]) w = pithlaw19_kept.F x0 x1 w Q := by kernel_rfl
theorem pithlaw19_kept.calls {x0 : Value} {x1 : Value} {w : World} {Q : Value → World → Prop} (h : pithlaw19_kept.F x0 x1 w Q) : Calls Try.prog 14 #[x0, x1] w (retP Q) :=
  calls_of_cw (H := pithlaw19_kept.H) (c := pithlaw19_kept.c) (args := [x0, x1]) mixed Try.func14 (by kernel_rfl) (by kernel_rfl) (Nat.le_of_ble_eq_true (by kernel_rfl)) ((pithlaw19_kept.eq x0 x1 w Q).mpr h)

/-! pithlaw19_hold: pith/pithlaw19.hold; temporaries: 0:b 1:k 2:b 3:k 5:h -/
def pithlaw19_hold.H : Hints := { cut := fun | 5 => some ([], 66584576) | _ => none, loop := fun  | _ => ([], 0), order := fun  | _ => [] }
def pithlaw19_hold.F (x0 : Value) (x1 : Value) (w : World) (Q : Value → World → Prop) : Prop :=
 pN Try.prog (oAlloc 40) w fun x4 w1 =>
 pN Try.prog (oBi .len #[29] 3 [false] [x0]) w1 fun x8 w2 =>
 pN Try.prog (oBin .mul 3 (.tmp 9) (.const (.int .i64 2)) x1 (.int .i64 2)) w2 fun x10 w3 =>
 pN Try.prog (oBin .add 3 (.tmp 10) (.const (.int .i64 1)) x10 (.int .i64 1)) w3 fun x11 w4 =>
 pN Try.prog (oConv 3 5 x11) w4 fun x12 w5 =>
 pN Try.prog (oConv 29 9 x0) w5 fun x14 w6 =>
 pN Try.prog (oBin .rem 3 (.tmp 15) (.const (.int .i64 2)) x1 (.int .i64 2)) w6 fun x16 w7 =>
 pN Try.prog (oBin .eql 3 (.tmp 16) (.const (.int .i64 0)) x16 (.int .i64 0)) w7 fun x17 w8 =>
 pN Try.prog (oBuild 40 [(0, x0), (1, x8), (2, x12), (3, x14), (4, x17)]) w8 fun x18 w9 =>
 pN Try.prog (oAlloc 40) w9 fun x5 w10 =>
 pN Try.prog (oStore 40 x5 x18) w10 fun _ w11 =>
 ∃ I5 : World → Prop,
 (pN Try.prog (oFld 40 x5 4) w11 fun x19 w12 =>
 pN Try.prog (oLoad 4 x19) w12 fun x20 w13 =>
 pN Try.prog (oUn .not x20) w13 fun x21 w14 =>
 pIf x21
 (pN Try.prog (oLoad 40 x5) w14 fun x22 w15 =>
 pN Try.prog (oCall 23 [x22]) w15 fun _ w16 =>
 pN Try.prog (oLoad 40 x5) w16 fun x24 w17 =>
 pN Try.prog (oCall 24 [x24]) w17 fun x25 w18 =>
 pN Try.prog (oStore 40 x5 x25) w18 fun _ w19 =>
 I5 w19)
 (I5 w14)) ∧
 ∀ (_j5 : Env) (w20 : World), I5 w20 →
 pN Try.prog (oLoad 40 x5) w20 fun x26 w21 =>
 pN Try.prog (oStore 40 x4 x26) w21 fun _ w22 =>
 pL Try.prog (oRes 40 x4) w22 fun r4 =>
 Q r4 w22
noncomputable def pithlaw19_hold.c : Code := match Try.f15.body with | some c => c | none => .skip
theorem pithlaw19_hold.eq (x0 : Value) (x1 : Value) (w : World) (Q : Value → World → Prop) : cw Try.prog pithlaw19_hold.H pithlaw19_hold.c (endQ Try.prog Try.f15.results.toList Q) (argsE [x0, x1]) w = pithlaw19_hold.F x0 x1 w Q := by kernel_rfl
theorem pithlaw19_hold.calls {x0 : Value} {x1 : Value} {w : World} {Q : Value → World → Prop} (h : pithlaw19_hold.F x0 x1 w Q) : Calls Try.prog 15 #[x0, x1] w (retP Q) :=
  calls_of_cw (H := pithlaw19_hold.H) (c := pithlaw19_hold.c) (args := [x0, x1]) mixed Try.func15 (by kernel_rfl) (by kernel_rfl) (Nat.le_of_ble_eq_true (by kernel_rfl)) ((pithlaw19_hold.eq x0 x1 w Q).mpr h)

/-! pithlaw19_held: pith/pithlaw19.held; temporaries: 0:book 1:book 3:l 4:_ 5:h 6:_ 7:h 8:i 9:h 10:_ 11:h 12:_ 13:x -/
def pithlaw19_held.H : Hints := { cut := fun | 14 => some ([], 34634616275072) | 20 => some ([], 1151795604700005120) | _ => none, loop := fun | 3 => ([3, 16], 34359672876) | 10 => ([37], 70231305224320) | 16 => ([48], 2305561534236984064) | 22 => ([63], 154742495687300497507624964) | 27 => ([77], 77220136727884438534365188) | _ => ([], 0), order := fun  | _ => [] }
def pithlaw19_held.F (x0 : Value) (w : World) (Q : Value → World → Prop) : Prop :=
 pN Try.prog (oBi .len #[32] 3 [false] [x0]) w fun x15 w1 =>
 ∃ (L3 : Value → Value → World → Prop) (m3 : Value → Value → World → Nat),
 L3 (.slice none 0 0) (.int .i64 0) w1 ∧
 ∀ (_k3 : Env) (l3l3 : Value) (v16l3 : Value) (w2 : World), L3 l3l3 v16l3 w2 →
 pN Try.prog (oBin .lss 3 (.tmp 16) (.tmp 15) v16l3 x15) w2 fun x17 w3 =>
 pIf x17
 (pN Try.prog (oIdx 32 x0 v16l3) w3 fun x18 w4 =>
 pN Try.prog (oLoad 40 x18) w4 fun x19 w5 =>
 pN Try.prog (oAlloc 40) w5 fun x5 w6 =>
 pN Try.prog (oStore 40 x5 x19) w6 fun _ w7 =>
 pN Try.prog (oFld 40 x5 4) w7 fun x20 w8 =>
 pN Try.prog (oLoad 4 x20) w8 fun x21 w9 =>
 pGd (gB x21 true) (pN Try.prog (oFld 40 x5 0) w9) w9 fun x23 w10 =>
 pGd (gB x21 true) (pN Try.prog (oLoad 29 x23) w10) w10 fun x24 w11 =>
 pGd (gB x21 true) (pN Try.prog (oConv 29 9 x24) w11) w11 fun x25 w12 =>
 pGd (gB x21 true) (pN Try.prog (oFld 40 x5 3) w12) w12 fun x26 w13 =>
 pGd (gB x21 true) (pN Try.prog (oLoad 9 x26) w13) w13 fun x27 w14 =>
 pGd (gB x21 true) (pN Try.prog (oBin .neq 9 (.tmp 25) (.tmp 27) x25 x27) w14) w14 fun x28 w15 =>
 pN Try.prog (oPick x21 x28 (.bool false)) w15 fun x29 w16 =>
 pIf x29
 (Q (.bool false) w16)
 (pN Try.prog (oLoad 40 x5) w16 fun x31 w17 =>
 pN Try.prog (oBs 32 1 [(0, x31)]) w17 fun x32 w18 =>
 pN Try.prog (oBi .append #[32, 32] 32 [false, false] [l3l3, x32]) w18 fun x33 w19 =>
 pN Try.prog (oBin .add 3 (.tmp 16) (.const (.int .i64 1)) v16l3 (.int .i64 1)) w19 fun x34 w20 =>
 (L3 x33 x34 w20 ∧ m3 x33 x34 w20 < m3 l3l3 v16l3 w2)))
 (pN Try.prog (oBi .len #[32] 3 [false] [l3l3]) w3 fun x36 w21 =>
 ∃ (L10 : Value → World → Prop) (m10 : Value → World → Nat),
 L10 (.int .i64 0) w21 ∧
 ∀ (_k10 : Env) (v37l10 : Value) (w22 : World), L10 v37l10 w22 →
 pN Try.prog (oBin .lss 3 (.tmp 37) (.tmp 36) v37l10 x36) w22 fun x38 w23 =>
 pIf x38
 (∃ I14 : World → Prop,
 (pN Try.prog (oIdx 32 l3l3 v37l10) w23 fun x39 w24 =>
 pN Try.prog (oLoad 40 x39) w24 fun x40 w25 =>
 pN Try.prog (oAlloc 40) w25 fun x7 w26 =>
 pN Try.prog (oStore 40 x7 x40) w26 fun _ w27 =>
 pN Try.prog (oFld 40 x7 4) w27 fun x41 w28 =>
 pN Try.prog (oLoad 4 x41) w28 fun x42 w29 =>
 pIf x42
 (pN Try.prog (oLoad 40 x7) w29 fun x43 w30 =>
 pN Try.prog (oCall 23 [x43]) w30 fun _ w31 =>
 I14 w31)
 (I14 w29)) ∧
 ∀ (_j14 : Env) (w32 : World), I14 w32 →
 pN Try.prog (oBin .add 3 (.tmp 37) (.const (.int .i64 1)) v37l10 (.int .i64 1)) w32 fun x45 w33 =>
 (L10 x45 w33 ∧ m10 x45 w33 < m10 v37l10 w22))
 (pN Try.prog (oBi .len #[32] 3 [false] [l3l3]) w23 fun x47 w34 =>
 ∃ (L16 : Value → World → Prop) (m16 : Value → World → Nat),
 L16 (.int .i64 0) w34 ∧
 ∀ (_k16 : Env) (v48l16 : Value) (w35 : World), L16 v48l16 w35 →
 pN Try.prog (oBin .lss 3 (.tmp 48) (.tmp 47) v48l16 x47) w35 fun x49 w36 =>
 pIf x49
 (∃ I20 : World → Prop,
 (pN Try.prog (oIdx 32 l3l3 v48l16) w36 fun x51 w37 =>
 pN Try.prog (oLoad 40 x51) w37 fun x52 w38 =>
 pN Try.prog (oAlloc 40) w38 fun x9 w39 =>
 pN Try.prog (oStore 40 x9 x52) w39 fun _ w40 =>
 pN Try.prog (oFld 40 x9 4) w40 fun x53 w41 =>
 pN Try.prog (oLoad 4 x53) w41 fun x54 w42 =>
 pIf x54
 (pN Try.prog (oLoad 40 x9) w42 fun x57 w43 =>
 pN Try.prog (oCall 24 [x57]) w43 fun x58 w44 =>
 pN Try.prog (oIdx 32 l3l3 v48l16) w44 fun x59 w45 =>
 pN Try.prog (oStore 40 x59 x58) w45 fun _ w46 =>
 I20 w46)
 (I20 w42)) ∧
 ∀ (_j20 : Env) (w47 : World), I20 w47 →
 pN Try.prog (oBin .add 3 (.tmp 48) (.const (.int .i64 1)) v48l16 (.int .i64 1)) w47 fun x60 w48 =>
 (L16 x60 w48 ∧ m16 x60 w48 < m16 v48l16 w35))
 (pN Try.prog (oBi .len #[32] 3 [false] [l3l3]) w36 fun x62 w49 =>
 ∃ (L22 : Value → World → Prop) (m22 : Value → World → Nat),
 L22 (.int .i64 0) w49 ∧
 ∀ (_k22 : Env) (v63l22 : Value) (w50 : World), L22 v63l22 w50 →
 pN Try.prog (oBin .lss 3 (.tmp 63) (.tmp 62) v63l22 x62) w50 fun x64 w51 =>
 pIf x64
 (pN Try.prog (oIdx 32 l3l3 v63l22) w51 fun x65 w52 =>
 pN Try.prog (oLoad 40 x65) w52 fun x66 w53 =>
 pN Try.prog (oAlloc 40) w53 fun x11 w54 =>
 pN Try.prog (oStore 40 x11 x66) w54 fun _ w55 =>
 pN Try.prog (oFld 40 x11 0) w55 fun x67 w56 =>
 pN Try.prog (oLoad 29 x67) w56 fun x68 w57 =>
 pN Try.prog (oBi .len #[29] 3 [false] [x68]) w57 fun x69 w58 =>
 pN Try.prog (oFld 40 x11 1) w58 fun x70 w59 =>
 pN Try.prog (oLoad 3 x70) w59 fun x71 w60 =>
 pN Try.prog (oBin .add 3 (.tmp 71) (.const (.int .i64 3)) x71 (.int .i64 3)) w60 fun x72 w61 =>
 pN Try.prog (oBin .neq 3 (.tmp 69) (.tmp 72) x69 x72) w61 fun x73 w62 =>
 pIf x73
 (Q (.bool false) w62)
 (pN Try.prog (oFld 40 x11 0) w62 fun x74 w63 =>
 pN Try.prog (oLoad 29 x74) w63 fun x75 w64 =>
 pN Try.prog (oBi .len #[29] 3 [false] [x75]) w64 fun x76 w65 =>
 ∃ (L27 : Value → World → Prop) (m27 : Value → World → Nat),
 L27 (.int .i64 0) w65 ∧
 ∀ (_k27 : Env) (v77l27 : Value) (w66 : World), L27 v77l27 w66 →
 pN Try.prog (oBin .lss 3 (.tmp 77) (.tmp 76) v77l27 x76) w66 fun x78 w67 =>
 pIf x78
 (pN Try.prog (oIdx 29 x75 v77l27) w67 fun x79 w68 =>
 pN Try.prog (oLoad 5 x79) w68 fun x80 w69 =>
 pN Try.prog (oFld 40 x11 2) w69 fun x82 w70 =>
 pN Try.prog (oLoad 5 x82) w70 fun x83 w71 =>
 pN Try.prog (oBin .neq 5 (.tmp 81) (.tmp 83) x80 x83) w71 fun x84 w72 =>
 pIf x84
 (Q (.bool false) w72)
 (pN Try.prog (oBin .add 3 (.tmp 77) (.const (.int .i64 1)) v77l27 (.int .i64 1)) w72 fun x85 w73 =>
 (L27 x85 w73 ∧ m27 x85 w73 < m27 v77l27 w66)))
 (pN Try.prog (oBin .add 3 (.tmp 63) (.const (.int .i64 1)) v63l22 (.int .i64 1)) w67 fun x86 w74 =>
 (L22 x86 w74 ∧ m22 x86 w74 < m22 v63l22 w50))))
 (Q (.bool true) w51))))
noncomputable def pithlaw19_held.c : Code := match Try.f16.body with | some c => c | none => .skip
theorem pithlaw19_held.eq (x0 : Value) (w : World) (Q : Value → World → Prop) : cw Try.prog pithlaw19_held.H pithlaw19_held.c (endQ Try.prog Try.f16.results.toList Q) (argsE [x0]) w = pithlaw19_held.F x0 w Q := by kernel_rfl
theorem pithlaw19_held.calls {x0 : Value} {w : World} {Q : Value → World → Prop} (h : pithlaw19_held.F x0 w Q) : Calls Try.prog 16 #[x0] w (retP Q) :=
  calls_of_cw (H := pithlaw19_held.H) (c := pithlaw19_held.c) (args := [x0]) mixed Try.func16 (by kernel_rfl) (by kernel_rfl) (Nat.le_of_ble_eq_true (by kernel_rfl)) ((pithlaw19_held.eq x0 w Q).mpr h)

/-! delta_Encode: pith/delta.Encode; temporaries: 0:b 1:dist 2:b 3:dist -/
def delta_Encode.H : Hints := { cut := fun  | _ => none, loop := fun  | _ => ([], 0), order := fun  | _ => [] }
def delta_Encode.F (x0 : Value) (x1 : Value) (w : World) (Q : Value → World → Prop) : Prop :=
 pN Try.prog (oCall 25 [x0, x1, (.bool false)]) w fun x8 w1 =>
 pN Try.prog (oExt x8 0) w1 fun x9 w2 =>
 pN Try.prog (oExt x8 1) w2 fun x10 w3 =>
 Q (.tuple #[x9, x10]) w3
noncomputable def delta_Encode.c : Code := match Try.f17.body with | some c => c | none => .skip
theorem delta_Encode.eq (x0 : Value) (x1 : Value) (w : World) (Q : Value → World → Prop) : cw Try.prog delta_Encode.H delta_Encode.c (endQ Try.prog Try.f17.results.toList Q) (argsE [x0, x1]) w = delta_Encode.F x0 x1 w Q := by kernel_rfl
theorem delta_Encode.calls {x0 : Value} {x1 : Value} {w : World} {Q : Value → World → Prop} (h : delta_Encode.F x0 x1 w Q) : Calls Try.prog 17 #[x0, x1] w (retP Q) :=
  calls_of_cw (H := delta_Encode.H) (c := delta_Encode.c) (args := [x0, x1]) mixed Try.func17 (by kernel_rfl) (by kernel_rfl) (Nat.le_of_ble_eq_true (by kernel_rfl)) ((delta_Encode.eq x0 x1 w Q).mpr h)

/-! delta_Decode: pith/delta.Decode; temporaries: 0:b 1:dist 2:b 3:dist -/
def delta_Decode.H : Hints := { cut := fun  | _ => none, loop := fun  | _ => ([], 0), order := fun  | _ => [] }
def delta_Decode.F (x0 : Value) (x1 : Value) (w : World) (Q : Value → World → Prop) : Prop :=
 pN Try.prog (oCall 25 [x0, x1, (.bool true)]) w fun x8 w1 =>
 pN Try.prog (oExt x8 0) w1 fun x9 w2 =>
 pN Try.prog (oExt x8 1) w2 fun x10 w3 =>
 Q (.tuple #[x9, x10]) w3
noncomputable def delta_Decode.c : Code := match Try.f18.body with | some c => c | none => .skip
theorem delta_Decode.eq (x0 : Value) (x1 : Value) (w : World) (Q : Value → World → Prop) : cw Try.prog delta_Decode.H delta_Decode.c (endQ Try.prog Try.f18.results.toList Q) (argsE [x0, x1]) w = delta_Decode.F x0 x1 w Q := by kernel_rfl
theorem delta_Decode.calls {x0 : Value} {x1 : Value} {w : World} {Q : Value → World → Prop} (h : delta_Decode.F x0 x1 w Q) : Calls Try.prog 18 #[x0, x1] w (retP Q) :=
  calls_of_cw (H := delta_Decode.H) (c := delta_Decode.c) (args := [x0, x1]) mixed Try.func18 (by kernel_rfl) (by kernel_rfl) (Nat.le_of_ble_eq_true (by kernel_rfl)) ((delta_Decode.eq x0 x1 w Q).mpr h)

/-! pithref19_Code: pith/pithref19.Code; temporaries: 0:b 1:dist 2:back 3:b 4:dist 5:back -/
def pithref19_Code.H : Hints := { cut := fun  | _ => none, loop := fun  | _ => ([], 0), order := fun  | _ => [] }
def pithref19_Code.F (x0 : Value) (x1 : Value) (x2 : Value) (w : World) (Q : Value → World → Prop) : Prop :=
 pN Try.prog (oCall 10 [x1]) w fun x9 w1 =>
 pN Try.prog (oUn .not x9) w1 fun x10 w2 =>
 pIf x10
 (Q (.tuple #[(.slice none 0 0), (.int .i64 6)]) w2)
 (pIf x2
 (pN Try.prog (oCall 26 [x0, x1]) w2 fun x14 w3 =>
 Q (.tuple #[x14, (.int .i64 0)]) w3)
 (pN Try.prog (oCall 27 [x0, x1]) w2 fun x17 w4 =>
 Q (.tuple #[x17, (.int .i64 0)]) w4))
noncomputable def pithref19_Code.c : Code := match Try.f19.body with | some c => c | none => .skip
theorem pithref19_Code.eq (x0 : Value) (x1 : Value) (x2 : Value) (w : World) (Q : Value → World → Prop) : cw Try.prog pithref19_Code.H pithref19_Code.c (endQ Try.prog Try.f19.results.toList Q) (argsE [x0, x1, x2]) w = pithref19_Code.F x0 x1 x2 w Q := by kernel_rfl
theorem pithref19_Code.calls {x0 : Value} {x1 : Value} {x2 : Value} {w : World} {Q : Value → World → Prop} (h : pithref19_Code.F x0 x1 x2 w Q) : Calls Try.prog 19 #[x0, x1, x2] w (retP Q) :=
  calls_of_cw (H := pithref19_Code.H) (c := pithref19_Code.c) (args := [x0, x1, x2]) mixed Try.func19 (by kernel_rfl) (by kernel_rfl) (Nat.le_of_ble_eq_true (by kernel_rfl)) ((pithref19_Code.eq x0 x1 x2 w Q).mpr h)

/-! pithlaw19_anew: pith/pithlaw19.anew; temporaries: 0:x 1:dist 2:x 3:dist 5:i 6:y 7:_ 8:z 9:_ 10:now 11:v 12:_ 13:w 14:_ -/
def pithlaw19_anew.H : Hints := { cut := fun  | _ => none, loop := fun | 2 => ([17], 4294836256) | _ => ([], 0), order := fun  | _ => [] }
def pithlaw19_anew.F (x0 : Value) (x1 : Value) (w : World) (Q : Value → World → Prop) : Prop :=
 pN Try.prog (oBi .len #[29] 3 [false] [x0]) w fun x16 w1 =>
 ∃ (L2 : Value → World → Prop) (m2 : Value → World → Nat),
 L2 (.int .i64 0) w1 ∧
 ∀ (_k2 : Env) (v17l2 : Value) (w2 : World), L2 v17l2 w2 →
 pN Try.prog (oBin .lss 3 (.tmp 17) (.tmp 16) v17l2 x16) w2 fun x18 w3 =>
 pIf x18
 (pN Try.prog (oIdx 29 x0 v17l2) w3 fun x24 w4 =>
 pN Try.prog (oLoad 5 x24) w4 fun x25 w5 =>
 pN Try.prog (oConv 3 5 v17l2) w5 fun x27 w6 =>
 pN Try.prog (oBin .add 5 (.tmp 25) (.tmp 27) x25 x27) w6 fun x28 w7 =>
 pN Try.prog (oBin .add 5 (.tmp 28) (.const (.int .u8 1)) x28 (.int .u8 1)) w7 fun x29 w8 =>
 pN Try.prog (oIdx 29 x0 v17l2) w8 fun x30 w9 =>
 pN Try.prog (oStore 5 x30 x29) w9 fun _ w10 =>
 pN Try.prog (oBin .add 3 (.tmp 17) (.const (.int .i64 1)) v17l2 (.int .i64 1)) w10 fun x31 w11 =>
 (L2 x31 w11 ∧ m2 x31 w11 < m2 v17l2 w2))
 (pN Try.prog (oCall 17 [x0, x1]) w3 fun x35 w12 =>
 pN Try.prog (oExt x35 0) w12 fun x36 w13 =>
 pN Try.prog (oExt x35 1) w13 fun _ w14 =>
 pN Try.prog (oCall 18 [x0, x1]) w14 fun x41 w15 =>
 pN Try.prog (oExt x41 0) w15 fun x42 w16 =>
 pN Try.prog (oExt x41 1) w16 fun _ w17 =>
 pN Try.prog (oBs 29 0 []) w17 fun x44 w18 =>
 pN Try.prog (oBi .append #[29, 29] 29 [false, false] [x44, x0]) w18 fun x46 w19 =>
 pN Try.prog (oCall 19 [x46, x1, (.bool false)]) w19 fun x50 w20 =>
 pN Try.prog (oExt x50 0) w20 fun x51 w21 =>
 pN Try.prog (oExt x50 1) w21 fun _ w22 =>
 pN Try.prog (oCall 19 [x46, x1, (.bool true)]) w22 fun x56 w23 =>
 pN Try.prog (oExt x56 0) w23 fun x57 w24 =>
 pN Try.prog (oExt x56 1) w24 fun _ w25 =>
 pN Try.prog (oConv 29 9 x36) w25 fun x60 w26 =>
 pN Try.prog (oConv 29 9 x51) w26 fun x62 w27 =>
 pN Try.prog (oBin .eql 9 (.tmp 60) (.tmp 62) x60 x62) w27 fun x63 w28 =>
 pGd (gB x63 true) (pN Try.prog (oMv x42) w28) w28 fun x65 w29 =>
 pGd (gB x63 true) (pN Try.prog (oConv 29 9 x65) w29) w29 fun x66 w30 =>
 pGd (gB x63 true) (pN Try.prog (oMv x57) w30) w30 fun x67 w31 =>
 pGd (gB x63 true) (pN Try.prog (oConv 29 9 x67) w31) w31 fun x68 w32 =>
 pGd (gB x63 true) (pN Try.prog (oBin .eql 9 (.tmp 66) (.tmp 68) x66 x68) w32) w32 fun x69 w33 =>
 pN Try.prog (oPick x63 x69 (.bool false)) w33 fun x70 w34 =>
 Q x70 w34)
noncomputable def pithlaw19_anew.c : Code := match Try.f20.body with | some c => c | none => .skip
theorem pithlaw19_anew.eq (x0 : Value) (x1 : Value) (w : World) (Q : Value → World → Prop) : cw Try.prog pithlaw19_anew.H pithlaw19_anew.c (endQ Try.prog Try.f20.results.toList Q) (argsE [x0, x1]) w = pithlaw19_anew.F x0 x1 w Q := by kernel_rfl
theorem pithlaw19_anew.calls {x0 : Value} {x1 : Value} {w : World} {Q : Value → World → Prop} (h : pithlaw19_anew.F x0 x1 w Q) : Calls Try.prog 20 #[x0, x1] w (retP Q) :=
  calls_of_cw (H := pithlaw19_anew.H) (c := pithlaw19_anew.c) (args := [x0, x1]) mixed Try.func20 (by kernel_rfl) (by kernel_rfl) (Nat.le_of_ble_eq_true (by kernel_rfl)) ((pithlaw19_anew.eq x0 x1 w Q).mpr h)

/-! pithlaw19_distance: pith/pithlaw19.distance; temporaries: 0:n 1:n -/
def pithlaw19_distance.H : Hints := { cut := fun | 4 => some ([0], 481) | _ => none, loop := fun  | _ => ([], 0), order := fun  | _ => [] }
def pithlaw19_distance.F (x0 : Value) (w : World) (Q : Value → World → Prop) : Prop :=
 pN Try.prog (oBin .rem 3 (.tmp 3) (.const (.int .i64 256)) x0 (.int .i64 256)) w fun x4 w1 =>
 ∃ I4 : Value → World → Prop,
 (pN Try.prog (oBin .lss 3 (.tmp 5) (.const (.int .i64 0)) x4 (.int .i64 0)) w1 fun x6 w2 =>
 pIf x6
 (pN Try.prog (oUn .neg x4) w2 fun x8 w3 =>
 I4 x8 w3)
 (I4 x4 w2)) ∧
 ∀ (_j4 : Env) (n0c4 : Value) (w4 : World), I4 n0c4 w4 →
 pN Try.prog (oBin .add 3 (.tmp 9) (.const (.int .i64 1)) n0c4 (.int .i64 1)) w4 fun x10 w5 =>
 Q x10 w5
noncomputable def pithlaw19_distance.c : Code := match Try.f21.body with | some c => c | none => .skip
theorem pithlaw19_distance.eq (x0 : Value) (w : World) (Q : Value → World → Prop) : cw Try.prog pithlaw19_distance.H pithlaw19_distance.c (endQ Try.prog Try.f21.results.toList Q) (argsE [x0]) w = pithlaw19_distance.F x0 w Q := by kernel_rfl
theorem pithlaw19_distance.calls {x0 : Value} {w : World} {Q : Value → World → Prop} (h : pithlaw19_distance.F x0 w Q) : Calls Try.prog 21 #[x0] w (retP Q) :=
  calls_of_cw (H := pithlaw19_distance.H) (c := pithlaw19_distance.c) (args := [x0]) mixed Try.func21 (by kernel_rfl) (by kernel_rfl) (Nat.le_of_ble_eq_true (by kernel_rfl)) ((pithlaw19_distance.eq x0 w Q).mpr h)

/-! pithlaw19_both: pith/pithlaw19.both; temporaries: 0:b 1:d 2:b 3:d 7:x 8:e 9:y 10:f -/
def pithlaw19_both.H : Hints := { cut := fun  | _ => none, loop := fun  | _ => ([], 0), order := fun  | _ => [] }
def pithlaw19_both.F (x0 : Value) (x1 : Value) (w : World) (Q : Value → World → Prop) : Prop :=
 pN Try.prog (oBs 29 0 []) w fun x12 w1 =>
 pN Try.prog (oBi .append #[29, 29] 29 [false, false] [x12, x0]) w1 fun x14 w2 =>
 pN Try.prog (oCall 17 [x14, x1]) w2 fun x16 w3 =>
 pN Try.prog (oExt x16 0) w3 fun x17 w4 =>
 pN Try.prog (oExt x16 1) w4 fun x18 w5 =>
 pN Try.prog (oBs 29 0 []) w5 fun x20 w6 =>
 pN Try.prog (oBi .append #[29, 29] 29 [false, false] [x20, x0]) w6 fun x22 w7 =>
 pN Try.prog (oCall 18 [x22, x1]) w7 fun x24 w8 =>
 pN Try.prog (oExt x24 0) w8 fun x25 w9 =>
 pN Try.prog (oExt x24 1) w9 fun x26 w10 =>
 pN Try.prog (oBin .eql 24 (.tmp 29) (.const (.int .i64 0)) x18 (.int .i64 0)) w10 fun x30 w11 =>
 pGd (gB x30 true) (pN Try.prog (oMv x26) w11) w11 fun x32 w12 =>
 pGd (gB x30 true) (pN Try.prog (oBin .eql 24 (.tmp 32) (.const (.int .i64 0)) x32 (.int .i64 0)) w12) w12 fun x33 w13 =>
 pN Try.prog (oPick x30 x33 (.bool false)) w13 fun x34 w14 =>
 pGd (gB x34 true) (pN Try.prog (oMv x17) w14) w14 fun x36 w15 =>
 pGd (gB x34 true) (pN Try.prog (oBi .len #[29] 3 [false] [x36]) w15) w15 fun x37 w16 =>
 pGd (gB x34 true) (pN Try.prog (oMv x0) w16) w16 fun x38 w17 =>
 pGd (gB x34 true) (pN Try.prog (oBi .len #[29] 3 [false] [x38]) w17) w17 fun x39 w18 =>
 pGd (gB x34 true) (pN Try.prog (oBin .eql 3 (.tmp 37) (.tmp 39) x37 x39) w18) w18 fun x40 w19 =>
 pN Try.prog (oPick x34 x40 (.bool false)) w19 fun x41 w20 =>
 pGd (gB x41 true) (pN Try.prog (oMv x25) w20) w20 fun x43 w21 =>
 pGd (gB x41 true) (pN Try.prog (oBi .len #[29] 3 [false] [x43]) w21) w21 fun x44 w22 =>
 pGd (gB x41 true) (pN Try.prog (oMv x0) w22) w22 fun x45 w23 =>
 pGd (gB x41 true) (pN Try.prog (oBi .len #[29] 3 [false] [x45]) w23) w23 fun x46 w24 =>
 pGd (gB x41 true) (pN Try.prog (oBin .eql 3 (.tmp 44) (.tmp 46) x44 x46) w24) w24 fun x47 w25 =>
 pN Try.prog (oPick x41 x47 (.bool false)) w25 fun x48 w26 =>
 Q (.tuple #[x17, x25, x48]) w26
noncomputable def pithlaw19_both.c : Code := match Try.f22.body with | some c => c | none => .skip
theorem pithlaw19_both.eq (x0 : Value) (x1 : Value) (w : World) (Q : Value → World → Prop) : cw Try.prog pithlaw19_both.H pithlaw19_both.c (endQ Try.prog Try.f22.results.toList Q) (argsE [x0, x1]) w = pithlaw19_both.F x0 x1 w Q := by kernel_rfl
theorem pithlaw19_both.calls {x0 : Value} {x1 : Value} {w : World} {Q : Value → World → Prop} (h : pithlaw19_both.F x0 x1 w Q) : Calls Try.prog 22 #[x0, x1] w (retP Q) :=
  calls_of_cw (H := pithlaw19_both.H) (c := pithlaw19_both.c) (args := [x0, x1]) mixed Try.func22 (by kernel_rfl) (by kernel_rfl) (Nat.le_of_ble_eq_true (by kernel_rfl)) ((pithlaw19_both.eq x0 x1 w Q).mpr h)

/-! pithlaw19_Held_written: (pith/pithlaw19.Held).written; temporaries: 0:h 1:h 2:i -/
def pithlaw19_Held_written.H : Hints := { cut := fun  | _ => none, loop := fun | 2 => ([2], 32764) | _ => ([], 0), order := fun  | _ => [] }
def pithlaw19_Held_written.F (x0 : Value) (w : World) (Q : Value → World → Prop) : Prop :=
 pN Try.prog (oBox 40 x0) w fun x1 w1 =>
 ∃ (L2 : Value → World → Prop) (m2 : Value → World → Nat),
 L2 (.int .i64 0) w1 ∧
 ∀ (_k2 : Env) (i2l2 : Value) (w2 : World), L2 i2l2 w2 →
 pN Try.prog (oFld 40 x1 1) w2 fun x4 w3 =>
 pN Try.prog (oLoad 3 x4) w3 fun x5 w4 =>
 pN Try.prog (oBin .lss 3 (.tmp 3) (.tmp 5) i2l2 x5) w4 fun x6 w5 =>
 pIf x6
 (pN Try.prog (oFld 40 x1 0) w5 fun x9 w6 =>
 pN Try.prog (oLoad 29 x9) w6 fun x10 w7 =>
 pN Try.prog (oFld 40 x1 2) w7 fun x12 w8 =>
 pN Try.prog (oLoad 5 x12) w8 fun x13 w9 =>
 pN Try.prog (oIdx 29 x10 i2l2) w9 fun x14 w10 =>
 pN Try.prog (oStore 5 x14 x13) w10 fun _ w11 =>
 pN Try.prog (oBin .add 3 (.tmp 7) (.const (.int .i64 1)) i2l2 (.int .i64 1)) w11 fun x8 w12 =>
 (L2 x8 w12 ∧ m2 x8 w12 < m2 i2l2 w2))
 (Q (.tuple #[]) w5)
noncomputable def pithlaw19_Held_written.c : Code := match Try.f23.body with | some c => c | none => .skip
theorem pithlaw19_Held_written.eq (x0 : Value) (w : World) (Q : Value → World → Prop) : cw Try.prog pithlaw19_Held_written.H pithlaw19_Held_written.c (endQ Try.prog Try.f23.results.toList Q) (argsE [x0]) w = pithlaw19_Held_written.F x0 w Q := by kernel_rfl
theorem pithlaw19_Held_written.calls {x0 : Value} {w : World} {Q : Value → World → Prop} (h : pithlaw19_Held_written.F x0 w Q) : Calls Try.prog 23 #[x0] w (retP Q) :=
  calls_of_cw (H := pithlaw19_Held_written.H) (c := pithlaw19_Held_written.c) (args := [x0]) mixed Try.func23 (by kernel_rfl) (by kernel_rfl) (Nat.le_of_ble_eq_true (by kernel_rfl)) ((pithlaw19_Held_written.eq x0 w Q).mpr h)

/-! pithlaw19_Held_grown: (pith/pithlaw19.Held).grown; temporaries: 0:h 1:h 3:i -/
def pithlaw19_Held_grown.H : Hints := { cut := fun  | _ => none, loop := fun | 2 => ([3], 32760) | _ => ([], 0), order := fun  | _ => [] }
def pithlaw19_Held_grown.F (x0 : Value) (w : World) (Q : Value → World → Prop) : Prop :=
 pN Try.prog (oBox 40 x0) w fun x1 w1 =>
 pN Try.prog (oAlloc 40) w1 fun x2 w2 =>
 ∃ (L2 : Value → World → Prop) (m2 : Value → World → Nat),
 L2 (.int .i64 0) w2 ∧
 ∀ (_k2 : Env) (i3l2 : Value) (w3 : World), L2 i3l2 w3 →
 pN Try.prog (oBin .lss 3 (.tmp 4) (.const (.int .i64 3)) i3l2 (.int .i64 3)) w3 fun x5 w4 =>
 pIf x5
 (pN Try.prog (oFld 40 x1 0) w4 fun x8 w5 =>
 pN Try.prog (oLoad 29 x8) w5 fun x9 w6 =>
 pN Try.prog (oFld 40 x1 2) w6 fun x10 w7 =>
 pN Try.prog (oLoad 5 x10) w7 fun x11 w8 =>
 pN Try.prog (oBs 29 1 [(0, x11)]) w8 fun x12 w9 =>
 pN Try.prog (oBi .append #[29, 29] 29 [false, false] [x9, x12]) w9 fun x13 w10 =>
 pN Try.prog (oFld 40 x1 0) w10 fun x14 w11 =>
 pN Try.prog (oStore 29 x14 x13) w11 fun _ w12 =>
 pN Try.prog (oBin .add 3 (.tmp 6) (.const (.int .i64 1)) i3l2 (.int .i64 1)) w12 fun x7 w13 =>
 (L2 x7 w13 ∧ m2 x7 w13 < m2 i3l2 w3))
 (pN Try.prog (oLoad 40 x1) w4 fun x15 w14 =>
 pN Try.prog (oStore 40 x2 x15) w14 fun _ w15 =>
 pL Try.prog (oRes 40 x2) w15 fun r2 =>
 Q r2 w15)
noncomputable def pithlaw19_Held_grown.c : Code := match Try.f24.body with | some c => c | none => .skip
theorem pithlaw19_Held_grown.eq (x0 : Value) (w : World) (Q : Value → World → Prop) : cw Try.prog pithlaw19_Held_grown.H pithlaw19_Held_grown.c (endQ Try.prog Try.f24.results.toList Q) (argsE [x0]) w = pithlaw19_Held_grown.F x0 w Q := by kernel_rfl
theorem pithlaw19_Held_grown.calls {x0 : Value} {w : World} {Q : Value → World → Prop} (h : pithlaw19_Held_grown.F x0 w Q) : Calls Try.prog 24 #[x0] w (retP Q) :=
  calls_of_cw (H := pithlaw19_Held_grown.H) (c := pithlaw19_Held_grown.c) (args := [x0]) mixed Try.func24 (by kernel_rfl) (by kernel_rfl) (Nat.le_of_ble_eq_true (by kernel_rfl)) ((pithlaw19_Held_grown.eq x0 w Q).mpr h)

/-! delta_whole: pith/delta.whole; temporaries: 0:b 1:dist 2:back 3:b 4:dist 5:back 8:f 9:e -/
def delta_whole.H : Hints := { cut := fun  | _ => none, loop := fun  | _ => ([], 0), order := fun  | _ => [] }
def delta_whole.F (x0 : Value) (x1 : Value) (x2 : Value) (w : World) (Q : Value → World → Prop) : Prop :=
 pN Try.prog (oCall 9 [x1, x2]) w fun x13 w1 =>
 pN Try.prog (oExt x13 0) w1 fun x14 w2 =>
 pN Try.prog (oExt x13 1) w2 fun x15 w3 =>
 pN Try.prog (oBin .neq 24 (.tmp 16) (.const (.int .i64 0)) x15 (.int .i64 0)) w3 fun x17 w4 =>
 pIf x17
 (Q (.tuple #[(.slice none 0 0), x15]) w4)
 (pN Try.prog (oCall 12 [x14, x0]) w4 fun x21 w5 =>
 Q (.tuple #[x21, (.int .i64 0)]) w5)
noncomputable def delta_whole.c : Code := match Try.f25.body with | some c => c | none => .skip
theorem delta_whole.eq (x0 : Value) (x1 : Value) (x2 : Value) (w : World) (Q : Value → World → Prop) : cw Try.prog delta_whole.H delta_whole.c (endQ Try.prog Try.f25.results.toList Q) (argsE [x0, x1, x2]) w = delta_whole.F x0 x1 x2 w Q := by kernel_rfl
theorem delta_whole.calls {x0 : Value} {x1 : Value} {x2 : Value} {w : World} {Q : Value → World → Prop} (h : delta_whole.F x0 x1 x2 w Q) : Calls Try.prog 25 #[x0, x1, x2] w (retP Q) :=
  calls_of_cw (H := delta_whole.H) (c := delta_whole.c) (args := [x0, x1, x2]) mixed Try.func25 (by kernel_rfl) (by kernel_rfl) (Nat.le_of_ble_eq_true (by kernel_rfl)) ((delta_whole.eq x0 x1 x2 w Q).mpr h)

/-! pithref19_Sums: pith/pithref19.Sums; temporaries: 0:y 1:d 2:y 3:d 5:x 6:i -/
def pithref19_Sums.H : Hints := { cut := fun  | _ => none, loop := fun | 3 => ([5, 6], 536870880) | _ => ([], 0), order := fun | 5 => [(0, 0), (1, 1), (2, 3), (3, 7), (4, 15), (5, 31), (6, 63), (7, 127), (8, 255), (9, 511), (10, 1023), (11, 2047), (12, 4095), (13, 8191), (14, 16383), (15, 32767), (16, 65535)] | _ => [] }
def pithref19_Sums.F (x0 : Value) (x1 : Value) (w : World) (Q : Value → World → Prop) : Prop :=
 ∃ (L3 : Value → Value → World → Prop) (m3 : Value → Value → World → Nat),
 L3 (.slice none 0 0) (.int .i64 0) w ∧
 ∀ (_k3 : Env) (x5l3 : Value) (i6l3 : Value) (w1 : World), L3 x5l3 i6l3 w1 →
 pN Try.prog (oBi .len #[29] 3 [false] [x0]) w1 fun x9 w2 =>
 pN Try.prog (oBin .lss 3 (.tmp 7) (.tmp 9) i6l3 x9) w2 fun x10 w3 =>
 pIf x10
 (pDr w3 fun w4 =>
 pA Try.prog (oIdx 29 x0 i6l3) fun x16 =>
 pL Try.prog (oLoad 5 x16) w4 fun x17 =>
 pL Try.prog (oConv 5 3 x17) w4 fun x18 =>
 pA Try.prog (oBin .sub 3 (.tmp 20) (.tmp 21) i6l3 x1) fun x22 =>
 pN Try.prog (oCall 28 [x5l3, x22]) w4 fun x23 w5 =>
 ((Sem.run Try.prog (oConv 5 3 x17) w5 = .ok (.value x18) w5) ∧ (Sem.run Try.prog (oLoad 5 x16) w5 = .ok (.value x17) w5) ∧ True) ∧ (pA Try.prog (oBin .add 3 (.tmp 18) (.tmp 23) x18 x23) fun x24 =>
 pA Try.prog (oBin .rem 3 (.tmp 24) (.const (.int .i64 256)) x24 (.int .i64 256)) fun x25 =>
 pL Try.prog (oConv 3 5 x25) w5 fun x26 =>
 pN Try.prog (oBs 29 1 [(0, x26)]) w5 fun x27 w6 =>
 (True) ∧ (pN Try.prog (oBi .append #[29, 29] 29 [false, false] [x5l3, x27]) w6 fun x28 w7 =>
 (True) ∧ (pN Try.prog (oBin .add 3 (.tmp 11) (.const (.int .i64 1)) i6l3 (.int .i64 1)) w7 fun x12 w8 =>
 (L3 x28 x12 w8 ∧ m3 x28 x12 w8 < m3 x5l3 i6l3 w1)))))
 (Q x5l3 w3)
noncomputable def pithref19_Sums.c : Code := match Try.f26.body with | some c => c | none => .skip
theorem pithref19_Sums.eq (x0 : Value) (x1 : Value) (w : World) (Q : Value → World → Prop) : cw Try.prog pithref19_Sums.H pithref19_Sums.c (endQ Try.prog Try.f26.results.toList Q) (argsE [x0, x1]) w = pithref19_Sums.F x0 x1 w Q := by kernel_rfl
theorem pithref19_Sums.calls {x0 : Value} {x1 : Value} {w : World} {Q : Value → World → Prop} (h : pithref19_Sums.F x0 x1 w Q) : Calls Try.prog 26 #[x0, x1] w (retP Q) :=
  calls_of_cw (H := pithref19_Sums.H) (c := pithref19_Sums.c) (args := [x0, x1]) mixed Try.func26 (by kernel_rfl) (by kernel_rfl) (Nat.le_of_ble_eq_true (by kernel_rfl)) ((pithref19_Sums.eq x0 x1 w Q).mpr h)

/-! pithref19_Differences: pith/pithref19.Differences; temporaries: 0:x 1:d 2:x 3:d 5:y 6:i -/
def pithref19_Differences.H : Hints := { cut := fun  | _ => none, loop := fun | 3 => ([5, 6], 268435424) | _ => ([], 0), order := fun  | _ => [] }
def pithref19_Differences.F (x0 : Value) (x1 : Value) (w : World) (Q : Value → World → Prop) : Prop :=
 ∃ (L3 : Value → Value → World → Prop) (m3 : Value → Value → World → Nat),
 L3 (.slice none 0 0) (.int .i64 0) w ∧
 ∀ (_k3 : Env) (y5l3 : Value) (i6l3 : Value) (w1 : World), L3 y5l3 i6l3 w1 →
 pN Try.prog (oBi .len #[29] 3 [false] [x0]) w1 fun x9 w2 =>
 pN Try.prog (oBin .lss 3 (.tmp 7) (.tmp 9) i6l3 x9) w2 fun x10 w3 =>
 pIf x10
 (pN Try.prog (oCall 28 [x0, i6l3]) w3 fun x16 w4 =>
 pN Try.prog (oBin .add 3 (.tmp 16) (.const (.int .i64 256)) x16 (.int .i64 256)) w4 fun x17 w5 =>
 pN Try.prog (oBin .sub 3 (.tmp 19) (.tmp 20) i6l3 x1) w5 fun x21 w6 =>
 pN Try.prog (oCall 28 [x0, x21]) w6 fun x22 w7 =>
 pN Try.prog (oBin .sub 3 (.tmp 17) (.tmp 22) x17 x22) w7 fun x23 w8 =>
 pN Try.prog (oBin .rem 3 (.tmp 23) (.const (.int .i64 256)) x23 (.int .i64 256)) w8 fun x24 w9 =>
 pN Try.prog (oConv 3 5 x24) w9 fun x25 w10 =>
 pN Try.prog (oBs 29 1 [(0, x25)]) w10 fun x26 w11 =>
 pN Try.prog (oBi .append #[29, 29] 29 [false, false] [y5l3, x26]) w11 fun x27 w12 =>
 pN Try.prog (oBin .add 3 (.tmp 11) (.const (.int .i64 1)) i6l3 (.int .i64 1)) w12 fun x12 w13 =>
 (L3 x27 x12 w13 ∧ m3 x27 x12 w13 < m3 y5l3 i6l3 w1))
 (Q y5l3 w3)
noncomputable def pithref19_Differences.c : Code := match Try.f27.body with | some c => c | none => .skip
theorem pithref19_Differences.eq (x0 : Value) (x1 : Value) (w : World) (Q : Value → World → Prop) : cw Try.prog pithref19_Differences.H pithref19_Differences.c (endQ Try.prog Try.f27.results.toList Q) (argsE [x0, x1]) w = pithref19_Differences.F x0 x1 w Q := by kernel_rfl
theorem pithref19_Differences.calls {x0 : Value} {x1 : Value} {w : World} {Q : Value → World → Prop} (h : pithref19_Differences.F x0 x1 w Q) : Calls Try.prog 27 #[x0, x1] w (retP Q) :=
  calls_of_cw (H := pithref19_Differences.H) (c := pithref19_Differences.c) (args := [x0, x1]) mixed Try.func27 (by kernel_rfl) (by kernel_rfl) (Nat.le_of_ble_eq_true (by kernel_rfl)) ((pithref19_Differences.eq x0 x1 w Q).mpr h)

/-! pithref19_at: pith/pithref19.at; temporaries: 0:x 1:i 2:x 3:i -/
def pithref19_at.H : Hints := { cut := fun  | _ => none, loop := fun  | _ => ([], 0), order := fun  | _ => [] }
def pithref19_at.F (x0 : Value) (x1 : Value) (w : World) (Q : Value → World → Prop) : Prop :=
 pN Try.prog (oBin .lss 3 (.tmp 5) (.const (.int .i64 0)) x1 (.int .i64 0)) w fun x6 w1 =>
 pIf x6
 (Q (.int .i64 0) w1)
 (pN Try.prog (oIdx 29 x0 x1) w1 fun x9 w2 =>
 pN Try.prog (oLoad 5 x9) w2 fun x10 w3 =>
 pN Try.prog (oConv 5 3 x10) w3 fun x11 w4 =>
 Q x11 w4)
noncomputable def pithref19_at.c : Code := match Try.f28.body with | some c => c | none => .skip
theorem pithref19_at.eq (x0 : Value) (x1 : Value) (w : World) (Q : Value → World → Prop) : cw Try.prog pithref19_at.H pithref19_at.c (endQ Try.prog Try.f28.results.toList Q) (argsE [x0, x1]) w = pithref19_at.F x0 x1 w Q := by kernel_rfl
theorem pithref19_at.calls {x0 : Value} {x1 : Value} {w : World} {Q : Value → World → Prop} (h : pithref19_at.F x0 x1 w Q) : Calls Try.prog 28 #[x0, x1] w (retP Q) :=
  calls_of_cw (H := pithref19_at.H) (c := pithref19_at.c) (args := [x0, x1]) mixed Try.func28 (by kernel_rfl) (by kernel_rfl) (Nat.le_of_ble_eq_true (by kernel_rfl)) ((pithref19_at.eq x0 x1 w Q).mpr h)

end Go.Proofs.Ytlkbenlhngkibaa
