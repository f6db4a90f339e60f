/-
  Printed by a program of mine (lift.py): each function of the seat as a plain proposition over values and worlds; that the program meets it.
-/
import Derived.Test.YtoejaggkedlfmaaRows
import Derived.Test.YtoejaggkedlfmaaFacts
namespace Go.Proofs.Ytoejaggkedlfmaa
open Go
set_option linter.unusedSimpArgs false
set_option linter.unnecessarySimpa false
set_option linter.unusedSectionVars false
set_option linter.unusedVariables false
set_option maxRecDepth 100000

/-! pithlaw09_TreeCheaper: pith/pithlaw09.TreeCheaper; temporaries: 0:n 1:v 2:back 3:n 4:v 5:back 7:s 8:e 9:x 10:cost 11:f 12:i 13:now -/
def pithlaw09_TreeCheaper.H : Hints := { cut := fun | 10 => some ([10, 11], 9187343239835814912) | 12 => some ([10, 11], 20282409601290487182512428690752) | 19 => some ([8, 11, 13], 79228160153081096158721353984) | _ => none, loop := fun | 11 => ([10, 11, 12], 20282409603642447051910396525888) | _ => ([], 0), order := fun  | _ => [] }
def pithlaw09_TreeCheaper.F [Pan] (x0 : Value) (x1 : Value) (x2 : Value) (w : World) (Q : Value → World → Prop) : Prop :=
 pN Try.prog (oBin .lss 3 (.tmp 14) (.const (.int .i64 0)) x0 (.int .i64 0)) w fun x15 w1 =>
 pGd (gB x15 false) (pN Try.prog (oMv x0) w1) w1 fun x17 w2 =>
 pGd (gB x15 false) (pN Try.prog (oBin .gtr 3 (.tmp 17) (.const (.int .i64 10)) x17 (.int .i64 10)) w2) w2 fun x18 w3 =>
 pN Try.prog (oPick x15 (.bool true) x18) w3 fun x19 w4 =>
 pGd (gB x19 false) (pN Try.prog (oMv x1) w4) w4 fun x21 w5 =>
 pGd (gB x19 false) (pN Try.prog (oBin .lss 3 (.tmp 21) (.const (.int .i64 0)) x21 (.int .i64 0)) w5) w5 fun x22 w6 =>
 pN Try.prog (oPick x19 (.bool true) x22) w6 fun x23 w7 =>
 pGd (gB x23 false) (pN Try.prog (oMv x1) w7) w7 fun x25 w8 =>
 pGd (gB x23 false) (pN Try.prog (oMv x0) w8) w8 fun x26 w9 =>
 pGd (gB x23 false) (pN Try.prog (oBin .shl 3 (.const (.int .i64 1)) (.tmp 26) (.int .i64 1) x26) w9) w9 fun x27 w10 =>
 pGd (gB x23 false) (pN Try.prog (oBin .geq 3 (.tmp 25) (.tmp 27) x25 x27) w10) w10 fun x28 w11 =>
 pN Try.prog (oPick x23 (.bool true) x28) w11 fun x29 w12 =>
 pIf x29
 (pN Try.prog (oCall 57 []) w12 fun x30 w13 =>
 Q x30 w13)
 (pN Try.prog (oBin .shl 3 (.const (.int .i64 1)) (.tmp 32) (.int .i64 1) x0) w12 fun x33 w14 =>
 pN Try.prog (oCall 45 [x33]) w14 fun x34 w15 =>
 pN Try.prog (oExt x34 0) w15 fun x35 w16 =>
 pN Try.prog (oExt x34 1) w16 fun x36 w17 =>
 pN Try.prog (oCall 18 []) w17 fun x37 w18 =>
 pN Try.prog (oBin .neq 27 (.tmp 38) (.const (.int .i64 0)) x36 (.int .i64 0)) w18 fun x39 w19 =>
 pGd (gB x39 false) (pN Try.prog (oMv x35) w19) w19 fun x41 w20 =>
 pGd (gB x39 false) (pN Try.prog (oBin .eql 34 (.tmp 41) (.const (.pointer none)) x41 (.pointer none)) w20) w20 fun x42 w21 =>
 pN Try.prog (oPick x39 (.bool true) x42) w21 fun x43 w22 =>
 pGd (gB x43 false) (pN Try.prog (oMv x37) w22) w22 fun x45 w23 =>
 pGd (gB x43 false) (pN Try.prog (oBin .eql 24 (.tmp 45) (.const (.pointer none)) x45 (.pointer none)) w23) w23 fun x46 w24 =>
 pN Try.prog (oPick x43 (.bool true) x46) w24 fun x47 w25 =>
 pIf x47
 (Q (.bool false) w25)
 (pN Try.prog (oCall 58 [x35, (.int .i64 0), x0, x1]) w25 fun x52 w26 =>
 pN Try.prog (oExt x52 0) w26 fun x53 w27 =>
 pN Try.prog (oExt x52 1) w27 fun x54 w28 =>
 ∃ I10 : Value → Value → World → Prop,
 (pIf x2
 (pN Try.prog (oCall 59 [x35, (.int .i64 0), x0, x1]) w28 fun x60 w29 =>
 pN Try.prog (oExt x60 0) w29 fun x61 w30 =>
 pN Try.prog (oExt x60 1) w30 fun x62 w31 =>
 I10 x61 x62 w31)
 (I10 x53 x54 w28)) ∧
 ∀ (_j10 : Env) (cost10c10 : Value) (f11c10 : Value) (w32 : World), I10 cost10c10 f11c10 w32 →
 ∃ (L11 : Value → Value → Value → World → Prop) (m11 : Value → Value → Value → World → Nat),
 L11 cost10c10 f11c10 (.int .i64 0) w32 ∧
 ∀ (_k11 : Env) (cost10l11 : Value) (f11l11 : Value) (i12l11 : Value) (w33 : World), L11 cost10l11 f11l11 i12l11 w33 →
 pN Try.prog (oBin .lss 3 (.tmp 63) (.const (.int .i64 300)) i12l11 (.int .i64 300)) w33 fun x64 w34 =>
 pGd (gB x64 true) (pN Try.prog (oMv f11l11) w34) w34 fun x66 w35 =>
 pGd (gB x64 true) (pN Try.prog (oBin .eql 27 (.tmp 66) (.const (.int .i64 0)) x66 (.int .i64 0)) w35) w35 fun x67 w36 =>
 pN Try.prog (oPick x64 x67 (.bool false)) w36 fun x68 w37 =>
 pIf x68
 (∃ I12 : Value → Value → World → Prop,
 (∃ I19 : Value → Value → Value → World → Prop,
 (pIf x2
 (pN Try.prog (oCall 60 [x37, x35, (.int .i64 0), x0, x1]) w37 fun x76 w38 =>
 pN Try.prog (oCall 59 [x35, (.int .i64 0), x0, x1]) w38 fun x81 w39 =>
 pN Try.prog (oExt x81 0) w39 fun x82 w40 =>
 pN Try.prog (oExt x81 1) w40 fun x83 w41 =>
 I19 x83 x76 x82 w41)
 (pN Try.prog (oCall 61 [x37, x35, (.int .i64 0), x0, x1]) w37 fun x88 w42 =>
 pN Try.prog (oCall 58 [x35, (.int .i64 0), x0, x1]) w42 fun x93 w43 =>
 pN Try.prog (oExt x93 0) w43 fun x94 w44 =>
 pN Try.prog (oExt x93 1) w44 fun x95 w45 =>
 I19 x95 x88 x94 w45)) ∧
 ∀ (_j19 : Env) (e8c19 : Value) (f11c19 : Value) (now13c19 : Value) (w46 : World), I19 e8c19 f11c19 now13c19 w46 →
 pN Try.prog (oBin .neq 27 (.tmp 96) (.const (.int .i64 0)) e8c19 (.int .i64 0)) w46 fun x97 w47 =>
 pGd (gB x97 false) (pN Try.prog (oMv now13c19) w47) w47 fun x99 w48 =>
 pGd (gB x97 false) (pN Try.prog (oMv cost10l11) w48) w48 fun x100 w49 =>
 pGd (gB x97 false) (pN Try.prog (oBin .gtr 3 (.tmp 99) (.tmp 100) x99 x100) w49) w49 fun x101 w50 =>
 pN Try.prog (oPick x97 (.bool true) x101) w50 fun x102 w51 =>
 pIf x102
 (Q (.bool false) w51)
 (I12 now13c19 f11c19 w51)) ∧
 ∀ (_j12 : Env) (cost10c12 : Value) (f11c12 : Value) (w52 : World), I12 cost10c12 f11c12 w52 →
 pN Try.prog (oBin .add 3 (.tmp 69) (.const (.int .i64 1)) i12l11 (.int .i64 1)) w52 fun x70 w53 =>
 (L11 cost10c12 f11c12 x70 w53 ∧ m11 cost10c12 f11c12 x70 w53 < m11 cost10l11 f11l11 i12l11 w33))
 (pN Try.prog (oBin .eql 27 (.tmp 104) (.const (.int .i64 0)) f11l11 (.int .i64 0)) w37 fun x105 w54 =>
 pGd (gB x105 true) (pN Try.prog (oMv cost10l11) w54) w54 fun x107 w55 =>
 pGd (gB x105 true) (pN Try.prog (oMv x0) w55) w55 fun x108 w56 =>
 pGd (gB x105 true) (pN Try.prog (oBin .leq 3 (.tmp 107) (.tmp 108) x107 x108) w56) w56 fun x109 w57 =>
 pN Try.prog (oPick x105 x109 (.bool false)) w57 fun x110 w58 =>
 pGd (gB x110 true) (pN Try.prog (oCall 57 []) w58) w58 fun x112 w59 =>
 pN Try.prog (oPick x110 x112 (.bool false)) w59 fun x113 w60 =>
 Q x113 w60)))
noncomputable def pithlaw09_TreeCheaper.c : Code := match Try.f11.body with | some c => c | none => .skip
theorem pithlaw09_TreeCheaper.eq [Pan] (x0 : Value) (x1 : Value) (x2 : Value) (w : World) (Q : Value → World → Prop) : cw Try.prog pithlaw09_TreeCheaper.H pithlaw09_TreeCheaper.c (endQ Try.prog Try.f11.results.toList Q) (argsE [x0, x1, x2]) w = pithlaw09_TreeCheaper.F x0 x1 x2 w Q := by kernel_rfl
theorem pithlaw09_TreeCheaper.calls [Pan] {x0 : Value} {x1 : Value} {x2 : Value} {w : World} {Q : Value → World → Prop} (h : pithlaw09_TreeCheaper.F x0 x1 x2 w Q) : Calls Try.prog 11 #[x0, x1, x2] w (retP Q) :=
  calls_of_cw (H := pithlaw09_TreeCheaper.H) (c := pithlaw09_TreeCheaper.c) (args := [x0, x1, x2]) mixed Try.func11 (by kernel_rfl) (by kernel_rfl) (Nat.le_of_ble_eq_true (by kernel_rfl)) ((pithlaw09_TreeCheaper.eq x0 x1 x2 w Q).mpr h)

/-! pithlaw09_TreeTwoOrders: pith/pithlaw09.TreeTwoOrders; temporaries: 0:n 1:v 2:bits 3:n 4:v 5:bits 7:a 8:e 9:i 10:t 11:was 12:b 13:x 14:y 15:c 16:f 17:d 18:g 19:moved 20:i 21:p 22:_ 23:q 24:_ -/
def pithlaw09_TreeTwoOrders.H : Hints := { cut := fun | 8 => some ([], 75555557882905109726272) | 12 => some ([10], 34587645138205410304) | 25 => some ([19], 1427236803670218411027455141462057319831961600) | _ => none, loop := fun | 7 => ([9], 75557827697117304456768) | 24 => ([19, 20], 1427247522564776420589054237762191420531671040) | _ => ([], 0), order := fun | 30 => [(0, 0), (3, 1), (1, 9), (2, 11), (4, 15), (5, 31), (6, 63), (7, 127), (8, 255), (9, 511), (10, 1023), (11, 2047), (12, 4095), (13, 8191), (14, 16383), (15, 32767), (16, 65535), (17, 131071), (18, 262143), (19, 524287), (20, 1048575)] | _ => [] }
def pithlaw09_TreeTwoOrders.F [Pan] (x0 : Value) (x1 : Value) (x2 : Value) (w : World) (Q : Value → World → Prop) : Prop :=
 pN Try.prog (oBin .lss 3 (.tmp 25) (.const (.int .i64 0)) x0 (.int .i64 0)) w fun x26 w1 =>
 pGd (gB x26 false) (pN Try.prog (oMv x0) w1) w1 fun x28 w2 =>
 pGd (gB x26 false) (pN Try.prog (oBin .gtr 3 (.tmp 28) (.const (.int .i64 16)) x28 (.int .i64 16)) w2) w2 fun x29 w3 =>
 pN Try.prog (oPick x26 (.bool true) x29) w3 fun x30 w4 =>
 pGd (gB x30 false) (pN Try.prog (oMv x1) w4) w4 fun x32 w5 =>
 pGd (gB x30 false) (pN Try.prog (oBin .lss 3 (.tmp 32) (.const (.int .i64 0)) x32 (.int .i64 0)) w5) w5 fun x33 w6 =>
 pN Try.prog (oPick x30 (.bool true) x33) w6 fun x34 w7 =>
 pGd (gB x34 false) (pN Try.prog (oMv x1) w7) w7 fun x36 w8 =>
 pGd (gB x34 false) (pN Try.prog (oMv x0) w8) w8 fun x37 w9 =>
 pGd (gB x34 false) (pN Try.prog (oBin .shl 3 (.const (.int .i64 1)) (.tmp 37) (.int .i64 1) x37) w9) w9 fun x38 w10 =>
 pGd (gB x34 false) (pN Try.prog (oBin .geq 3 (.tmp 36) (.tmp 38) x36 x38) w10) w10 fun x39 w11 =>
 pN Try.prog (oPick x34 (.bool true) x39) w11 fun x40 w12 =>
 pIf x40
 (pN Try.prog (oCall 57 []) w12 fun x41 w13 =>
 Q x41 w13)
 (pN Try.prog (oBin .shl 3 (.const (.int .i64 1)) (.tmp 43) (.int .i64 1) x0) w12 fun x44 w14 =>
 pN Try.prog (oBin .add 3 (.tmp 44) (.const (.int .i64 9)) x44 (.int .i64 9)) w14 fun x45 w15 =>
 pN Try.prog (oCall 45 [x45]) w15 fun x46 w16 =>
 pN Try.prog (oExt x46 0) w16 fun x47 w17 =>
 pN Try.prog (oExt x46 1) w17 fun x48 w18 =>
 pN Try.prog (oBin .neq 27 (.tmp 49) (.const (.int .i64 0)) x48 (.int .i64 0)) w18 fun x50 w19 =>
 pGd (gB x50 false) (pN Try.prog (oMv x47) w19) w19 fun x52 w20 =>
 pGd (gB x50 false) (pN Try.prog (oBin .eql 34 (.tmp 52) (.const (.pointer none)) x52 (.pointer none)) w20) w20 fun x53 w21 =>
 pN Try.prog (oPick x50 (.bool true) x53) w21 fun x54 w22 =>
 pIf x54
 (Q (.bool false) w22)
 (∃ (L7 : Value → World → Prop) (m7 : Value → World → Nat),
 L7 (.int .i64 0) w22 ∧
 ∀ (_k7 : Env) (i9l7 : Value) (w23 : World), L7 i9l7 w23 →
 pN Try.prog (oBi .len #[102] 3 [false] [x2]) w23 fun x57 w24 =>
 pN Try.prog (oBin .lss 3 (.tmp 55) (.tmp 57) i9l7 x57) w24 fun x58 w25 =>
 pIf x58
 (∃ I8 : World → Prop,
 (∃ I12 : Value → World → Prop,
 (pN Try.prog (oIdx 102 x2 i9l7) w25 fun x63 w26 =>
 pN Try.prog (oLoad 4 x63) w26 fun x64 w27 =>
 pIf x64
 (I12 (.int .i64 1) w27)
 (I12 (.int .i64 0) w27)) ∧
 ∀ (_j12 : Env) (t10c12 : Value) (w28 : World), I12 t10c12 w28 →
 pN Try.prog (oBin .mul 3 (.tmp 66) (.tmp 67) i9l7 i9l7) w28 fun x68 w29 =>
 pN Try.prog (oBin .add 3 (.tmp 68) (.const (.int .i64 5)) x68 (.int .i64 5)) w29 fun x69 w30 =>
 pN Try.prog (oCall 63 [x47]) w30 fun x71 w31 =>
 pN Try.prog (oBin .rem 3 (.tmp 69) (.tmp 71) x69 x71) w31 fun x72 w32 =>
 pN Try.prog (oCall 62 [x47, x72, t10c12]) w32 fun x74 w33 =>
 pN Try.prog (oBin .neq 27 (.tmp 74) (.const (.int .i64 0)) x74 (.int .i64 0)) w33 fun x75 w34 =>
 pIf x75
 (Q (.bool false) w34)
 (I8 w34)) ∧
 ∀ (_j8 : Env) (w35 : World), I8 w35 →
 pN Try.prog (oBin .add 3 (.tmp 59) (.const (.int .i64 1)) i9l7 (.int .i64 1)) w35 fun x60 w36 =>
 (L7 x60 w36 ∧ m7 x60 w36 < m7 i9l7 w23))
 (pN Try.prog (oCall 40 [x47]) w25 fun x77 w37 =>
 pN Try.prog (oCall 40 [x47]) w37 fun x79 w38 =>
 pN Try.prog (oCall 18 []) w38 fun x80 w39 =>
 pN Try.prog (oCall 18 []) w39 fun x81 w40 =>
 pN Try.prog (oCall 64 [x0, x1]) w40 fun x87 w41 =>
 pN Try.prog (oCall 58 [x47, (.int .i64 9), x0, x87]) w41 fun x88 w42 =>
 pN Try.prog (oExt x88 0) w42 fun x89 w43 =>
 pN Try.prog (oExt x88 1) w43 fun x90 w44 =>
 pN Try.prog (oCall 59 [x79, (.int .i64 9), x0, x1]) w44 fun x95 w45 =>
 pN Try.prog (oExt x95 0) w45 fun x96 w46 =>
 pN Try.prog (oExt x95 1) w46 fun x97 w47 =>
 pN Try.prog (oBin .neq 27 (.tmp 98) (.const (.int .i64 0)) x90 (.int .i64 0)) w47 fun x99 w48 =>
 pGd (gB x99 false) (pN Try.prog (oMv x97) w48) w48 fun x101 w49 =>
 pGd (gB x99 false) (pN Try.prog (oBin .neq 27 (.tmp 101) (.const (.int .i64 0)) x101 (.int .i64 0)) w49) w49 fun x102 w50 =>
 pN Try.prog (oPick x99 (.bool true) x102) w50 fun x103 w51 =>
 pGd (gB x103 false) (pN Try.prog (oMv x89) w51) w51 fun x105 w52 =>
 pGd (gB x103 false) (pN Try.prog (oMv x96) w52) w52 fun x106 w53 =>
 pGd (gB x103 false) (pN Try.prog (oBin .neq 3 (.tmp 105) (.tmp 106) x105 x106) w53) w53 fun x107 w54 =>
 pN Try.prog (oPick x103 (.bool true) x107) w54 fun x108 w55 =>
 pGd (gB x108 false) (pN Try.prog (oMv x80) w55) w55 fun x110 w56 =>
 pGd (gB x108 false) (pN Try.prog (oMv x47) w56) w56 fun x111 w57 =>
 pGd (gB x108 false) (pN Try.prog (oMv x0) w57) w57 fun x112 w58 =>
 pGd (gB x108 false) (pN Try.prog (oMv x0) w58) w58 fun x113 w59 =>
 pGd (gB x108 false) (pN Try.prog (oMv x1) w59) w59 fun x114 w60 =>
 pGd (gB x108 false) (pN Try.prog (oCall 64 [x113, x114]) w60) w60 fun x115 w61 =>
 pGd (gB x108 false) (pN Try.prog (oCall 61 [x110, x111, (.int .i64 9), x112, x115]) w61) w61 fun x116 w62 =>
 pGd (gB x108 false) (pN Try.prog (oBin .neq 27 (.tmp 116) (.const (.int .i64 0)) x116 (.int .i64 0)) w62) w62 fun x117 w63 =>
 pN Try.prog (oPick x108 (.bool true) x117) w63 fun x118 w64 =>
 pGd (gB x118 false) (pN Try.prog (oMv x81) w64) w64 fun x120 w65 =>
 pGd (gB x118 false) (pN Try.prog (oMv x79) w65) w65 fun x121 w66 =>
 pGd (gB x118 false) (pN Try.prog (oMv x0) w66) w66 fun x122 w67 =>
 pGd (gB x118 false) (pN Try.prog (oMv x1) w67) w67 fun x123 w68 =>
 pGd (gB x118 false) (pN Try.prog (oCall 60 [x120, x121, (.int .i64 9), x122, x123]) w68) w68 fun x124 w69 =>
 pGd (gB x118 false) (pN Try.prog (oBin .neq 27 (.tmp 124) (.const (.int .i64 0)) x124 (.int .i64 0)) w69) w69 fun x125 w70 =>
 pN Try.prog (oPick x118 (.bool true) x125) w70 fun x126 w71 =>
 pIf x126
 (Q (.bool false) w71)
 (∃ (L24 : Value → Value → World → Prop) (m24 : Value → Value → World → Nat),
 L24 (.int .i64 0) (.int .i64 0) w71 ∧
 ∀ (_k24 : Env) (moved19l24 : Value) (i20l24 : Value) (w72 : World), L24 moved19l24 i20l24 w72 →
 pN Try.prog (oCall 63 [x47]) w72 fun x129 w73 =>
 pN Try.prog (oBin .lss 3 (.tmp 127) (.tmp 129) i20l24 x129) w73 fun x130 w74 =>
 pIf x130
 (∃ I25 : Value → World → Prop,
 (pN Try.prog (oCall 28 [x47, i20l24]) w74 fun x136 w75 =>
 pN Try.prog (oExt x136 0) w75 fun x137 w76 =>
 pN Try.prog (oExt x136 1) w76 fun _ w77 =>
 pN Try.prog (oCall 28 [x77, i20l24]) w77 fun x142 w78 =>
 pN Try.prog (oExt x142 0) w78 fun x143 w79 =>
 pN Try.prog (oExt x142 1) w79 fun _ w80 =>
 pN Try.prog (oBin .neq 3 (.tmp 145) (.tmp 146) x137 x143) w80 fun x147 w81 =>
 pIf x147
 (pN Try.prog (oBin .add 3 (.tmp 148) (.const (.int .i64 1)) moved19l24 (.int .i64 1)) w81 fun x149 w82 =>
 I25 x149 w82)
 (I25 moved19l24 w81)) ∧
 ∀ (_j25 : Env) (moved19c25 : Value) (w83 : World), I25 moved19c25 w83 →
 pN Try.prog (oBin .add 3 (.tmp 131) (.const (.int .i64 1)) i20l24 (.int .i64 1)) w83 fun x132 w84 =>
 (L24 moved19c25 x132 w84 ∧ m24 moved19c25 x132 w84 < m24 moved19l24 i20l24 w72))
 (pDr w74 fun w85 =>
 pN Try.prog (oCall 20 [x80]) w85 fun x151 w86 =>
 (True) ∧ (pL Try.prog (oConv 29 9 x151) w86 fun x152 =>
 pN Try.prog (oCall 20 [x81]) w86 fun x154 w87 =>
 ((Sem.run Try.prog (oConv 29 9 x151) w87 = .ok (.value x152) w87) ∧ True) ∧ (pL Try.prog (oConv 29 9 x154) w87 fun x155 =>
 pA Try.prog (oBin .eql 9 (.tmp 152) (.tmp 155) x152 x155) fun x156 =>
 gA (gB x156 true) (pA Try.prog (oMv x47)) fun x158 =>
 gA (gB x156 true) (pA Try.prog (oMv x79)) fun x159 =>
 pGd (gB x156 true) (pN Try.prog (oCall 65 [x158, x159]) w87) w87 fun x160 w88 =>
 (True) ∧ (pA Try.prog (oPick x156 x160 (.bool false)) fun x161 =>
 gA (gB x161 true) (pA Try.prog (oMv moved19l24)) fun x163 =>
 gA (gB x161 true) (pA Try.prog (oMv x0)) fun x164 =>
 gA (gB x161 true) (pA Try.prog (oBin .leq 3 (.tmp 163) (.tmp 164) x163 x164)) fun x165 =>
 pA Try.prog (oPick x161 x165 (.bool false)) fun x166 =>
 pGd (gB x166 true) (pN Try.prog (oCall 57 []) w88) w88 fun x168 w89 =>
 (True) ∧ (pA Try.prog (oPick x166 x168 (.bool false)) fun x169 =>
 Q x169 w89)))))))))
noncomputable def pithlaw09_TreeTwoOrders.c : Code := match Try.f12.body with | some c => c | none => .skip
theorem pithlaw09_TreeTwoOrders.eq [Pan] (x0 : Value) (x1 : Value) (x2 : Value) (w : World) (Q : Value → World → Prop) : cw Try.prog pithlaw09_TreeTwoOrders.H pithlaw09_TreeTwoOrders.c (endQ Try.prog Try.f12.results.toList Q) (argsE [x0, x1, x2]) w = pithlaw09_TreeTwoOrders.F x0 x1 x2 w Q := by kernel_rfl
theorem pithlaw09_TreeTwoOrders.calls [Pan] {x0 : Value} {x1 : Value} {x2 : Value} {w : World} {Q : Value → World → Prop} (h : pithlaw09_TreeTwoOrders.F x0 x1 x2 w Q) : Calls Try.prog 12 #[x0, x1, x2] w (retP Q) :=
  calls_of_cw (H := pithlaw09_TreeTwoOrders.H) (c := pithlaw09_TreeTwoOrders.c) (args := [x0, x1, x2]) mixed Try.func12 (by kernel_rfl) (by kernel_rfl) (Nat.le_of_ble_eq_true (by kernel_rfl)) ((pithlaw09_TreeTwoOrders.eq x0 x1 x2 w Q).mpr h)

/-! pithlaw09_TreeCodes: pith/pithlaw09.TreeCodes; temporaries: 0:lens 1:script 2:lens 3:script 5:w 6:ok 7:e 8:x 9:i 10:good -/
def pithlaw09_TreeCodes.H : Hints := { cut := fun  | _ => none, loop := fun | 7 => ([9], 17591917610512) | _ => ([], 0), order := fun | 12 => [(0, 0), (3, 1), (1, 9), (2, 11), (4, 15), (5, 31), (6, 63), (7, 127), (8, 255), (9, 511), (10, 1023), (11, 2047)] | _ => [] }
def pithlaw09_TreeCodes.F [Pan] (x0 : Value) (x1 : Value) (w : World) (Q : Value → World → Prop) : Prop :=
 pN Try.prog (oCall 66 [x0]) w fun x13 w1 =>
 pN Try.prog (oExt x13 0) w1 fun x14 w2 =>
 pN Try.prog (oExt x13 1) w2 fun x15 w3 =>
 pN Try.prog (oCall 18 []) w3 fun x16 w4 =>
 pN Try.prog (oCall 30 []) w4 fun x17 w5 =>
 pN Try.prog (oUn .not x15) w5 fun x19 w6 =>
 pGd (gB x19 false) (pN Try.prog (oMv x16) w6) w6 fun x21 w7 =>
 pGd (gB x19 false) (pN Try.prog (oBin .eql 24 (.tmp 21) (.const (.pointer none)) x21 (.pointer none)) w7) w7 fun x22 w8 =>
 pN Try.prog (oPick x19 (.bool true) x22) w8 fun x23 w9 =>
 pGd (gB x23 false) (pN Try.prog (oCall 57 []) w9) w9 fun x25 w10 =>
 pGd (gB x23 false) (pN Try.prog (oUn .not x25) w10) w10 fun x26 w11 =>
 pN Try.prog (oPick x23 (.bool true) x26) w11 fun x27 w12 =>
 pIf x27
 (Q (.bool false) w12)
 (∃ (L7 : Value → World → Prop) (m7 : Value → World → Nat),
 L7 (.int .i64 0) w12 ∧
 ∀ (_k7 : Env) (i9l7 : Value) (w13 : World), L7 i9l7 w13 →
 pN Try.prog (oBi .len #[110] 3 [false] [x1]) w13 fun x30 w14 =>
 pN Try.prog (oBin .lss 3 (.tmp 28) (.tmp 30) i9l7 x30) w14 fun x31 w15 =>
 pIf x31
 (pN Try.prog (oIdx 110 x1 i9l7) w15 fun x39 w16 =>
 pN Try.prog (oLoad 116 x39) w16 fun x40 w17 =>
 pN Try.prog (oCall 67 [x14, x16, x17, x40]) w17 fun x41 w18 =>
 pN Try.prog (oUn .not x41) w18 fun x43 w19 =>
 pIf x43
 (Q (.bool false) w19)
 (pN Try.prog (oBin .add 3 (.tmp 32) (.const (.int .i64 1)) i9l7 (.int .i64 1)) w19 fun x33 w20 =>
 (L7 x33 w20 ∧ m7 x33 w20 < m7 i9l7 w13)))
 (pDr w15 fun w21 =>
 pN Try.prog (oCall 20 [x16]) w21 fun x45 w22 =>
 (True) ∧ (pL Try.prog (oConv 29 9 x45) w22 fun x46 =>
 pN Try.prog (oCall 34 [x17]) w22 fun x48 w23 =>
 ((Sem.run Try.prog (oConv 29 9 x45) w23 = .ok (.value x46) w23) ∧ True) ∧ (pL Try.prog (oConv 29 9 x48) w23 fun x49 =>
 pA Try.prog (oBin .eql 9 (.tmp 46) (.tmp 49) x46 x49) fun x50 =>
 gA (gB x50 true) (pA Try.prog (oMv x14)) fun x52 =>
 pGd (gB x50 true) (pN Try.prog (oCall 68 [x52]) w23) w23 fun x53 w24 =>
 (True) ∧ (pA Try.prog (oPick x50 x53 (.bool false)) fun x54 =>
 Q x54 w24)))))
noncomputable def pithlaw09_TreeCodes.c : Code := match Try.f13.body with | some c => c | none => .skip
theorem pithlaw09_TreeCodes.eq [Pan] (x0 : Value) (x1 : Value) (w : World) (Q : Value → World → Prop) : cw Try.prog pithlaw09_TreeCodes.H pithlaw09_TreeCodes.c (endQ Try.prog Try.f13.results.toList Q) (argsE [x0, x1]) w = pithlaw09_TreeCodes.F x0 x1 w Q := by kernel_rfl
theorem pithlaw09_TreeCodes.calls [Pan] {x0 : Value} {x1 : Value} {w : World} {Q : Value → World → Prop} (h : pithlaw09_TreeCodes.F x0 x1 w Q) : Calls Try.prog 13 #[x0, x1] w (retP Q) :=
  calls_of_cw (H := pithlaw09_TreeCodes.H) (c := pithlaw09_TreeCodes.c) (args := [x0, x1]) mixed Try.func13 (by kernel_rfl) (by kernel_rfl) (Nat.le_of_ble_eq_true (by kernel_rfl)) ((pithlaw09_TreeCodes.eq x0 x1 w Q).mpr h)

/-! pithlaw09_TreeReads: pith/pithlaw09.TreeReads; temporaries: 0:lens 1:b 2:script 3:lens 4:b 5:script 7:w 8:ok 9:d 10:e 11:x 12:f 13:i 14:good -/
def pithlaw09_TreeReads.H : Hints := { cut := fun  | _ => none, loop := fun | 11 => ([13], 1208925818488729267888192) | _ => ([], 0), order := fun  | _ => [] }
def pithlaw09_TreeReads.F [Pan] (x0 : Value) (x1 : Value) (x2 : Value) (w : World) (Q : Value → World → Prop) : Prop :=
 pN Try.prog (oCall 66 [x0]) w fun x17 w1 =>
 pN Try.prog (oExt x17 0) w1 fun x18 w2 =>
 pN Try.prog (oExt x17 1) w2 fun x19 w3 =>
 pN Try.prog (oUn .not x19) w3 fun x21 w4 =>
 pGd (gB x21 false) (pN Try.prog (oCall 57 []) w4) w4 fun x23 w5 =>
 pGd (gB x21 false) (pN Try.prog (oUn .not x23) w5) w5 fun x24 w6 =>
 pN Try.prog (oPick x21 (.bool true) x24) w6 fun x25 w7 =>
 pIf x25
 (Q (.bool false) w7)
 (pN Try.prog (oBs 29 0 []) w7 fun x27 w8 =>
 pN Try.prog (oBi .append #[29, 29] 29 [false, false] [x27, x1]) w8 fun x29 w9 =>
 pN Try.prog (oCall 42 [x29]) w9 fun x30 w10 =>
 pN Try.prog (oExt x30 0) w10 fun x31 w11 =>
 pN Try.prog (oExt x30 1) w11 fun x32 w12 =>
 pN Try.prog (oCall 43 [x1]) w12 fun x35 w13 =>
 pN Try.prog (oExt x35 0) w13 fun x36 w14 =>
 pN Try.prog (oExt x35 1) w14 fun x37 w15 =>
 pN Try.prog (oBin .neq 3 (.tmp 38) (.tmp 39) x32 x37) w15 fun x40 w16 =>
 pGd (gB x40 false) (pN Try.prog (oMv x31) w16) w16 fun x42 w17 =>
 pGd (gB x40 false) (pN Try.prog (oBin .eql 75 (.tmp 42) (.const (.pointer none)) x42 (.pointer none)) w17) w17 fun x43 w18 =>
 pGd (gB x40 false) (pN Try.prog (oMv x36) w18) w18 fun x44 w19 =>
 pGd (gB x40 false) (pN Try.prog (oBin .eql 78 (.tmp 44) (.const (.pointer none)) x44 (.pointer none)) w19) w19 fun x45 w20 =>
 pGd (gB x40 false) (pN Try.prog (oBin .neq 4 (.tmp 43) (.tmp 45) x43 x45) w20) w20 fun x46 w21 =>
 pN Try.prog (oPick x40 (.bool true) x46) w21 fun x47 w22 =>
 pIf x47
 (Q (.bool false) w22)
 (pN Try.prog (oBin .eql 75 (.tmp 48) (.const (.pointer none)) x31 (.pointer none)) w22 fun x49 w23 =>
 pIf x49
 (Q (.bool true) w23)
 (∃ (L11 : Value → World → Prop) (m11 : Value → World → Nat),
 L11 (.int .i64 0) w23 ∧
 ∀ (_k11 : Env) (i13l11 : Value) (w24 : World), L11 i13l11 w24 →
 pN Try.prog (oBi .len #[110] 3 [false] [x2]) w24 fun x52 w25 =>
 pN Try.prog (oBin .lss 3 (.tmp 50) (.tmp 52) i13l11 x52) w25 fun x53 w26 =>
 pIf x53
 (pN Try.prog (oIdx 110 x2 i13l11) w26 fun x61 w27 =>
 pN Try.prog (oLoad 116 x61) w27 fun x62 w28 =>
 pN Try.prog (oCall 71 [x18, x31, x36, x62]) w28 fun x63 w29 =>
 pN Try.prog (oUn .not x63) w29 fun x65 w30 =>
 pGd (gB x65 false) (pN Try.prog (oMv x31) w30) w30 fun x67 w31 =>
 pGd (gB x65 false) (pN Try.prog (oCall 51 [x67]) w31) w31 fun x68 w32 =>
 pGd (gB x65 false) (pN Try.prog (oMv x36) w32) w32 fun x69 w33 =>
 pGd (gB x65 false) (pN Try.prog (oCall 52 [x69]) w33) w33 fun x70 w34 =>
 pGd (gB x65 false) (pN Try.prog (oBin .neq 3 (.tmp 68) (.tmp 70) x68 x70) w34) w34 fun x71 w35 =>
 pN Try.prog (oPick x65 (.bool true) x71) w35 fun x72 w36 =>
 pGd (gB x72 false) (pN Try.prog (oMv x31) w36) w36 fun x74 w37 =>
 pGd (gB x72 false) (pN Try.prog (oCall 53 [x74]) w37) w37 fun x75 w38 =>
 pGd (gB x72 false) (pN Try.prog (oMv x36) w38) w38 fun x76 w39 =>
 pGd (gB x72 false) (pN Try.prog (oCall 54 [x76]) w39) w39 fun x77 w40 =>
 pGd (gB x72 false) (pN Try.prog (oBin .neq 4 (.tmp 75) (.tmp 77) x75 x77) w40) w40 fun x78 w41 =>
 pN Try.prog (oPick x72 (.bool true) x78) w41 fun x79 w42 =>
 pIf x79
 (Q (.bool false) w42)
 (pN Try.prog (oBin .add 3 (.tmp 54) (.const (.int .i64 1)) i13l11 (.int .i64 1)) w42 fun x55 w43 =>
 (L11 x55 w43 ∧ m11 x55 w43 < m11 i13l11 w24)))
 (pN Try.prog (oCall 68 [x18]) w26 fun x81 w44 =>
 Q x81 w44))))
noncomputable def pithlaw09_TreeReads.c : Code := match Try.f16.body with | some c => c | none => .skip
theorem pithlaw09_TreeReads.eq [Pan] (x0 : Value) (x1 : Value) (x2 : Value) (w : World) (Q : Value → World → Prop) : cw Try.prog pithlaw09_TreeReads.H pithlaw09_TreeReads.c (endQ Try.prog Try.f16.results.toList Q) (argsE [x0, x1, x2]) w = pithlaw09_TreeReads.F x0 x1 x2 w Q := by kernel_rfl
theorem pithlaw09_TreeReads.calls [Pan] {x0 : Value} {x1 : Value} {x2 : Value} {w : World} {Q : Value → World → Prop} (h : pithlaw09_TreeReads.F x0 x1 x2 w Q) : Calls Try.prog 16 #[x0, x1, x2] w (retP Q) :=
  calls_of_cw (H := pithlaw09_TreeReads.H) (c := pithlaw09_TreeReads.c) (args := [x0, x1, x2]) mixed Try.func16 (by kernel_rfl) (by kernel_rfl) (Nat.le_of_ble_eq_true (by kernel_rfl)) ((pithlaw09_TreeReads.eq x0 x1 x2 w Q).mpr h)

/-! pithlaw09_TreeBack: pith/pithlaw09.TreeBack; temporaries: 0:lens 1:script 2:lens 3:script 5:w 6:ok 7:r 8:also 9:e 10:l 11:i 12:taken 13:d 14:f 15:i 16:good 17:k -/
def pithlaw09_TreeBack.H : Hints := { cut := fun | 9 => some ([10], 18446181123756135424) | _ => none, loop := fun | 8 => ([10, 11], 18446735277616536576) | 17 => ([15], 2475804520707034635474927632) | 23 => ([17], 83076747260677163485727391469404176) | _ => ([], 0), order := fun | 25 => [(0, 0), (1, 1), (2, 3), (3, 7), (4, 15), (5, 31), (6, 63), (7, 127), (8, 255), (9, 511), (10, 1023), (11, 2047), (12, 4095), (13, 8191), (14, 16383), (15, 32767)] | _ => [] }
def pithlaw09_TreeBack.F [Pan] (x0 : Value) (x1 : Value) (w : World) (Q : Value → World → Prop) : Prop :=
 pN Try.prog (oCall 66 [x0]) w fun x20 w1 =>
 pN Try.prog (oExt x20 0) w1 fun x21 w2 =>
 pN Try.prog (oExt x20 1) w2 fun x22 w3 =>
 pN Try.prog (oCall 66 [x0]) w3 fun x25 w4 =>
 pN Try.prog (oExt x25 0) w4 fun x26 w5 =>
 pN Try.prog (oExt x25 1) w5 fun x27 w6 =>
 pN Try.prog (oCall 18 []) w6 fun x28 w7 =>
 pN Try.prog (oUn .not x22) w7 fun x30 w8 =>
 pGd (gB x30 false) (pN Try.prog (oMv x27) w8) w8 fun x32 w9 =>
 pGd (gB x30 false) (pN Try.prog (oUn .not x32) w9) w9 fun x33 w10 =>
 pN Try.prog (oPick x30 (.bool true) x33) w10 fun x34 w11 =>
 pGd (gB x34 false) (pN Try.prog (oMv x28) w11) w11 fun x36 w12 =>
 pGd (gB x34 false) (pN Try.prog (oBin .eql 24 (.tmp 36) (.const (.pointer none)) x36 (.pointer none)) w12) w12 fun x37 w13 =>
 pN Try.prog (oPick x34 (.bool true) x37) w13 fun x38 w14 =>
 pGd (gB x38 false) (pN Try.prog (oCall 57 []) w14) w14 fun x40 w15 =>
 pGd (gB x38 false) (pN Try.prog (oUn .not x40) w15) w15 fun x41 w16 =>
 pN Try.prog (oPick x38 (.bool true) x41) w16 fun x42 w17 =>
 pIf x42
 (Q (.bool false) w17)
 (∃ (L8 : Value → Value → World → Prop) (m8 : Value → Value → World → Nat),
 L8 (.slice none 0 0) (.int .i64 0) w17 ∧
 ∀ (_k8 : Env) (l10l8 : Value) (i11l8 : Value) (w18 : World), L8 l10l8 i11l8 w18 →
 pN Try.prog (oBi .len #[110] 3 [false] [x1]) w18 fun x45 w19 =>
 pN Try.prog (oBin .lss 3 (.tmp 43) (.tmp 45) i11l8 x45) w19 fun x46 w20 =>
 pIf x46
 (∃ I9 : Value → World → Prop,
 (pN Try.prog (oIdx 110 x1 i11l8) w20 fun x53 w21 =>
 pN Try.prog (oLoad 116 x53) w21 fun x54 w22 =>
 pN Try.prog (oCall 72 [x21, x28, x54]) w22 fun x55 w23 =>
 pIf x55
 (pN Try.prog (oIdx 110 x1 i11l8) w23 fun x60 w24 =>
 pN Try.prog (oLoad 116 x60) w24 fun x61 w25 =>
 pN Try.prog (oBs 110 1 [(0, x61)]) w25 fun x62 w26 =>
 pN Try.prog (oBi .append #[110, 110] 110 [false, false] [l10l8, x62]) w26 fun x63 w27 =>
 I9 x63 w27)
 (I9 l10l8 w23)) ∧
 ∀ (_j9 : Env) (l10c9 : Value) (w28 : World), I9 l10c9 w28 →
 pN Try.prog (oBin .add 3 (.tmp 47) (.const (.int .i64 1)) i11l8 (.int .i64 1)) w28 fun x48 w29 =>
 (L8 l10c9 x48 w29 ∧ m8 l10c9 x48 w29 < m8 l10l8 i11l8 w18))
 (pN Try.prog (oCall 20 [x28]) w20 fun x66 w30 =>
 pN Try.prog (oCall 42 [x66]) w30 fun x67 w31 =>
 pN Try.prog (oExt x67 0) w31 fun x68 w32 =>
 pN Try.prog (oExt x67 1) w32 fun x69 w33 =>
 pN Try.prog (oBin .neq 27 (.tmp 70) (.const (.int .i64 0)) x69 (.int .i64 0)) w33 fun x71 w34 =>
 pGd (gB x71 false) (pN Try.prog (oMv x68) w34) w34 fun x73 w35 =>
 pGd (gB x71 false) (pN Try.prog (oBin .eql 75 (.tmp 73) (.const (.pointer none)) x73 (.pointer none)) w35) w35 fun x74 w36 =>
 pN Try.prog (oPick x71 (.bool true) x74) w36 fun x75 w37 =>
 pIf x75
 (Q (.bool false) w37)
 (∃ (L17 : Value → World → Prop) (m17 : Value → World → Nat),
 L17 (.int .i64 0) w37 ∧
 ∀ (_k17 : Env) (i15l17 : Value) (w38 : World), L17 i15l17 w38 →
 pN Try.prog (oBi .len #[110] 3 [false] [l10l8]) w38 fun x78 w39 =>
 pN Try.prog (oBin .lss 3 (.tmp 76) (.tmp 78) i15l17 x78) w39 fun x79 w40 =>
 pIf x79
 (pN Try.prog (oIdx 110 l10l8 i15l17) w40 fun x86 w41 =>
 pN Try.prog (oLoad 116 x86) w41 fun x87 w42 =>
 pN Try.prog (oCall 73 [x26, x68, x87]) w42 fun x88 w43 =>
 pN Try.prog (oUn .not x88) w43 fun x90 w44 =>
 pIf x90
 (Q (.bool false) w44)
 (pN Try.prog (oBin .add 3 (.tmp 80) (.const (.int .i64 1)) i15l17 (.int .i64 1)) w44 fun x81 w45 =>
 (L17 x81 w45 ∧ m17 x81 w45 < m17 i15l17 w38)))
 (∃ (L23 : Value → World → Prop) (m23 : Value → World → Nat),
 L23 (.int .i64 0) w40 ∧
 ∀ (_k23 : Env) (k17l23 : Value) (w46 : World), L23 k17l23 w46 →
 pN Try.prog (oNil x21) w46 fun x93 w47 =>
 pN Try.prog (oFld 130 x93 0) w47 fun x94 w48 =>
 pN Try.prog (oLoad 127 x94) w48 fun x95 w49 =>
 pN Try.prog (oBi .len #[127] 3 [false] [x95]) w49 fun x96 w50 =>
 pN Try.prog (oBin .lss 3 (.tmp 91) (.tmp 96) k17l23 x96) w50 fun x97 w51 =>
 pIf x97
 (pDr w51 fun w52 =>
 pA Try.prog (oNil x21) fun x101 =>
 pA Try.prog (oFld 130 x101 0) fun x102 =>
 pL Try.prog (oLoad 127 x102) w52 fun x103 =>
 pA Try.prog (oIdx 127 x103 k17l23) fun x105 =>
 pL Try.prog (oLoad 34 x105) w52 fun x106 =>
 pA Try.prog (oNil x26) fun x108 =>
 pA Try.prog (oFld 130 x108 0) fun x109 =>
 pL Try.prog (oLoad 127 x109) w52 fun x110 =>
 pA Try.prog (oIdx 127 x110 k17l23) fun x112 =>
 pL Try.prog (oLoad 34 x112) w52 fun x113 =>
 pN Try.prog (oCall 65 [x106, x113]) w52 fun x114 w53 =>
 (True) ∧ (pA Try.prog (oUn .not x114) fun x115 =>
 pIf x115
 (Q (.bool false) w53)
 (pN Try.prog (oBin .add 3 (.tmp 98) (.const (.int .i64 1)) k17l23 (.int .i64 1)) w53 fun x99 w54 =>
 (L23 x99 w54 ∧ m23 x99 w54 < m23 k17l23 w46))))
 (pN Try.prog (oCall 53 [x68]) w51 fun x117 w55 =>
 Q x117 w55)))))
noncomputable def pithlaw09_TreeBack.c : Code := match Try.f17.body with | some c => c | none => .skip
theorem pithlaw09_TreeBack.eq [Pan] (x0 : Value) (x1 : Value) (w : World) (Q : Value → World → Prop) : cw Try.prog pithlaw09_TreeBack.H pithlaw09_TreeBack.c (endQ Try.prog Try.f17.results.toList Q) (argsE [x0, x1]) w = pithlaw09_TreeBack.F x0 x1 w Q := by kernel_rfl
theorem pithlaw09_TreeBack.calls [Pan] {x0 : Value} {x1 : Value} {w : World} {Q : Value → World → Prop} (h : pithlaw09_TreeBack.F x0 x1 w Q) : Calls Try.prog 17 #[x0, x1] w (retP Q) :=
  calls_of_cw (H := pithlaw09_TreeBack.H) (c := pithlaw09_TreeBack.c) (args := [x0, x1]) mixed Try.func17 (by kernel_rfl) (by kernel_rfl) (Nat.le_of_ble_eq_true (by kernel_rfl)) ((pithlaw09_TreeBack.eq x0 x1 w Q).mpr h)

/-! pithlaw09_fixed: pith/pithlaw09.fixed; temporaries: 1:s 2:e 3:enc 4:c 5:f 6:g 7:p 8:h -/
def pithlaw09_fixed.H : Hints := { cut := fun  | _ => none, loop := fun  | _ => ([], 0), order := fun  | _ => [] }
def pithlaw09_fixed.F [Pan]  (w : World) (Q : Value → World → Prop) : Prop :=
 pN Try.prog (oCall 45 [(.int .i64 8)]) w fun x10 w1 =>
 pN Try.prog (oExt x10 0) w1 fun x11 w2 =>
 pN Try.prog (oExt x10 1) w2 fun x12 w3 =>
 pN Try.prog (oCall 18 []) w3 fun x13 w4 =>
 pN Try.prog (oBin .neq 27 (.tmp 14) (.const (.int .i64 0)) x12 (.int .i64 0)) w4 fun x15 w5 =>
 pGd (gB x15 false) (pN Try.prog (oMv x11) w5) w5 fun x17 w6 =>
 pGd (gB x15 false) (pN Try.prog (oBin .eql 34 (.tmp 17) (.const (.pointer none)) x17 (.pointer none)) w6) w6 fun x18 w7 =>
 pN Try.prog (oPick x15 (.bool true) x18) w7 fun x19 w8 =>
 pGd (gB x19 false) (pN Try.prog (oMv x13) w8) w8 fun x21 w9 =>
 pGd (gB x19 false) (pN Try.prog (oBin .eql 24 (.tmp 21) (.const (.pointer none)) x21 (.pointer none)) w9) w9 fun x22 w10 =>
 pN Try.prog (oPick x19 (.bool true) x22) w10 fun x23 w11 =>
 pIf x23
 (Q (.bool false) w11)
 (pN Try.prog (oCall 58 [x11, (.int .i64 0), (.int .i64 3), (.int .i64 5)]) w11 fun x26 w12 =>
 pN Try.prog (oExt x26 0) w12 fun x27 w13 =>
 pN Try.prog (oExt x26 1) w13 fun x28 w14 =>
 pN Try.prog (oCall 61 [x13, x11, (.int .i64 0), (.int .i64 3), (.int .i64 5)]) w14 fun x31 w15 =>
 pN Try.prog (oCall 28 [x11, (.int .i64 6)]) w15 fun x34 w16 =>
 pN Try.prog (oExt x34 0) w16 fun x35 w17 =>
 pN Try.prog (oExt x34 1) w17 fun x36 w18 =>
 pN Try.prog (oBin .eql 3 (.tmp 37) (.const (.int .i64 50)) x27 (.int .i64 50)) w18 fun x38 w19 =>
 pGd (gB x38 true) (pN Try.prog (oMv x28) w19) w19 fun x40 w20 =>
 pGd (gB x38 true) (pN Try.prog (oBin .eql 27 (.tmp 40) (.const (.int .i64 0)) x40 (.int .i64 0)) w20) w20 fun x41 w21 =>
 pN Try.prog (oPick x38 x41 (.bool false)) w21 fun x42 w22 =>
 pGd (gB x42 true) (pN Try.prog (oMv x31) w22) w22 fun x44 w23 =>
 pGd (gB x42 true) (pN Try.prog (oBin .eql 27 (.tmp 44) (.const (.int .i64 0)) x44 (.int .i64 0)) w23) w23 fun x45 w24 =>
 pN Try.prog (oPick x42 x45 (.bool false)) w24 fun x46 w25 =>
 pGd (gB x46 true) (pN Try.prog (oMv x35) w25) w25 fun x48 w26 =>
 pGd (gB x46 true) (pN Try.prog (oBin .eql 3 (.tmp 48) (.const (.int .i64 992)) x48 (.int .i64 992)) w26) w26 fun x49 w27 =>
 pN Try.prog (oPick x46 x49 (.bool false)) w27 fun x50 w28 =>
 pGd (gB x50 true) (pN Try.prog (oMv x36) w28) w28 fun x52 w29 =>
 pGd (gB x50 true) (pN Try.prog (oBin .eql 27 (.tmp 52) (.const (.int .i64 0)) x52 (.int .i64 0)) w29) w29 fun x53 w30 =>
 pN Try.prog (oPick x50 x53 (.bool false)) w30 fun x54 w31 =>
 Q x54 w31)
noncomputable def pithlaw09_fixed.c : Code := match Try.f57.body with | some c => c | none => .skip
theorem pithlaw09_fixed.eq [Pan]  (w : World) (Q : Value → World → Prop) : cw Try.prog pithlaw09_fixed.H pithlaw09_fixed.c (endQ Try.prog Try.f57.results.toList Q) (argsE []) w = pithlaw09_fixed.F  w Q := by kernel_rfl
theorem pithlaw09_fixed.calls [Pan]  {w : World} {Q : Value → World → Prop} (h : pithlaw09_fixed.F  w Q) : Calls Try.prog 57 #[] w (retP Q) :=
  calls_of_cw (H := pithlaw09_fixed.H) (c := pithlaw09_fixed.c) (args := []) mixed Try.func57 (by kernel_rfl) (by kernel_rfl) (Nat.le_of_ble_eq_true (by kernel_rfl)) ((pithlaw09_fixed.eq  w Q).mpr h)

/-! pithlaw09_turned: pith/pithlaw09.turned; temporaries: 0:n 1:v 2:n 3:v 5:r 6:i -/
def pithlaw09_turned.H : Hints := { cut := fun  | _ => none, loop := fun | 3 => ([5, 6], 524256) | _ => ([], 0), order := fun  | _ => [] }
def pithlaw09_turned.F [Pan] (x0 : Value) (x1 : Value) (w : World) (Q : Value → World → Prop) : Prop :=
 ∃ (L3 : Value → Value → World → Prop) (m3 : Value → Value → World → Nat),
 L3 (.int .i64 0) (.int .i64 0) w ∧
 ∀ (_k3 : Env) (r5l3 : Value) (i6l3 : Value) (w1 : World), L3 r5l3 i6l3 w1 →
 pN Try.prog (oBin .lss 3 (.tmp 7) (.tmp 8) i6l3 x0) w1 fun x9 w2 =>
 pIf x9
 (pN Try.prog (oBin .mul 3 (.const (.int .i64 2)) (.tmp 12) (.int .i64 2) r5l3) w2 fun x13 w3 =>
 pN Try.prog (oBin .shr 3 (.tmp 14) (.tmp 15) x1 i6l3) w3 fun x16 w4 =>
 pN Try.prog (oBin .and 3 (.tmp 16) (.const (.int .i64 1)) x16 (.int .i64 1)) w4 fun x17 w5 =>
 pN Try.prog (oBin .add 3 (.tmp 13) (.tmp 17) x13 x17) w5 fun x18 w6 =>
 pN Try.prog (oBin .add 3 (.tmp 10) (.const (.int .i64 1)) i6l3 (.int .i64 1)) w6 fun x11 w7 =>
 (L3 x18 x11 w7 ∧ m3 x18 x11 w7 < m3 r5l3 i6l3 w1))
 (Q r5l3 w2)
noncomputable def pithlaw09_turned.c : Code := match Try.f64.body with | some c => c | none => .skip
theorem pithlaw09_turned.eq [Pan] (x0 : Value) (x1 : Value) (w : World) (Q : Value → World → Prop) : cw Try.prog pithlaw09_turned.H pithlaw09_turned.c (endQ Try.prog Try.f64.results.toList Q) (argsE [x0, x1]) w = pithlaw09_turned.F x0 x1 w Q := by kernel_rfl
theorem pithlaw09_turned.calls [Pan] {x0 : Value} {x1 : Value} {w : World} {Q : Value → World → Prop} (h : pithlaw09_turned.F x0 x1 w Q) : Calls Try.prog 64 #[x0, x1] w (retP Q) :=
  calls_of_cw (H := pithlaw09_turned.H) (c := pithlaw09_turned.c) (args := [x0, x1]) mixed Try.func64 (by kernel_rfl) (by kernel_rfl) (Nat.le_of_ble_eq_true (by kernel_rfl)) ((pithlaw09_turned.eq x0 x1 w Q).mpr h)

/-! pithlaw09_alike: pith/pithlaw09.alike; temporaries: 0:a 1:b 2:a 3:b 5:i 6:p 7:e 8:q 9:f -/
def pithlaw09_alike.H : Hints := { cut := fun  | _ => none, loop := fun | 4 => ([5], 17592186012656) | _ => ([], 0), order := fun  | _ => [] }
def pithlaw09_alike.F [Pan] (x0 : Value) (x1 : Value) (w : World) (Q : Value → World → Prop) : Prop :=
 pN Try.prog (oCall 63 [x0]) w fun x11 w1 =>
 pN Try.prog (oCall 63 [x1]) w1 fun x13 w2 =>
 pN Try.prog (oBin .neq 3 (.tmp 11) (.tmp 13) x11 x13) w2 fun x14 w3 =>
 pIf x14
 (Q (.bool false) w3)
 (∃ (L4 : Value → World → Prop) (m4 : Value → World → Nat),
 L4 (.int .i64 0) w3 ∧
 ∀ (_k4 : Env) (i5l4 : Value) (w4 : World), L4 i5l4 w4 →
 pN Try.prog (oCall 63 [x0]) w4 fun x17 w5 =>
 pN Try.prog (oBin .lss 3 (.tmp 15) (.tmp 17) i5l4 x17) w5 fun x18 w6 =>
 pIf x18
 (pN Try.prog (oCall 28 [x0, i5l4]) w6 fun x24 w7 =>
 pN Try.prog (oExt x24 0) w7 fun x25 w8 =>
 pN Try.prog (oExt x24 1) w8 fun x26 w9 =>
 pN Try.prog (oCall 28 [x1, i5l4]) w9 fun x30 w10 =>
 pN Try.prog (oExt x30 0) w10 fun x31 w11 =>
 pN Try.prog (oExt x30 1) w11 fun x32 w12 =>
 pN Try.prog (oBin .neq 3 (.tmp 33) (.tmp 34) x25 x31) w12 fun x35 w13 =>
 pGd (gB x35 false) (pN Try.prog (oMv x26) w13) w13 fun x37 w14 =>
 pGd (gB x35 false) (pN Try.prog (oBin .neq 27 (.tmp 37) (.const (.int .i64 0)) x37 (.int .i64 0)) w14) w14 fun x38 w15 =>
 pN Try.prog (oPick x35 (.bool true) x38) w15 fun x39 w16 =>
 pGd (gB x39 false) (pN Try.prog (oMv x32) w16) w16 fun x41 w17 =>
 pGd (gB x39 false) (pN Try.prog (oBin .neq 27 (.tmp 41) (.const (.int .i64 0)) x41 (.int .i64 0)) w17) w17 fun x42 w18 =>
 pN Try.prog (oPick x39 (.bool true) x42) w18 fun x43 w19 =>
 pIf x43
 (Q (.bool false) w19)
 (pN Try.prog (oBin .add 3 (.tmp 19) (.const (.int .i64 1)) i5l4 (.int .i64 1)) w19 fun x20 w20 =>
 (L4 x20 w20 ∧ m4 x20 w20 < m4 i5l4 w4)))
 (Q (.bool true) w6))
noncomputable def pithlaw09_alike.c : Code := match Try.f65.body with | some c => c | none => .skip
theorem pithlaw09_alike.eq [Pan] (x0 : Value) (x1 : Value) (w : World) (Q : Value → World → Prop) : cw Try.prog pithlaw09_alike.H pithlaw09_alike.c (endQ Try.prog Try.f65.results.toList Q) (argsE [x0, x1]) w = pithlaw09_alike.F x0 x1 w Q := by kernel_rfl
theorem pithlaw09_alike.calls [Pan] {x0 : Value} {x1 : Value} {w : World} {Q : Value → World → Prop} (h : pithlaw09_alike.F x0 x1 w Q) : Calls Try.prog 65 #[x0, x1] w (retP Q) :=
  calls_of_cw (H := pithlaw09_alike.H) (c := pithlaw09_alike.c) (args := [x0, x1]) mixed Try.func65 (by kernel_rfl) (by kernel_rfl) (Nat.le_of_ble_eq_true (by kernel_rfl)) ((pithlaw09_alike.eq x0 x1 w Q).mpr h)

/-! pithlaw09_made: pith/pithlaw09.made; temporaries: 0:lens 1:lens 4:w 5:i 6:n 7:s 8:e 9:r 10:_ -/
def pithlaw09_made.H : Hints := { cut := fun | 4 => some ([], 9444732965739282040780) | 8 => some ([6], 2139095104) | 10 => some ([6], 135291469888) | _ => none, loop := fun | 3 => ([5], 9444732965739290421228) | _ => ([], 0), order := fun  | _ => [] }
def pithlaw09_made.F [Pan] (x0 : Value) (w : World) (Q : Value → World → Prop) : Prop :=
 pN Try.prog (oBuild 130 []) w fun x11 w1 =>
 pN Try.prog (oBox 130 x11) w1 fun x12 w2 =>
 ∃ (L3 : Value → World → Prop) (m3 : Value → World → Nat),
 L3 (.int .i64 0) w2 ∧
 ∀ (_k3 : Env) (i5l3 : Value) (w3 : World), L3 i5l3 w3 →
 pN Try.prog (oBi .len #[23] 3 [false] [x0]) w3 fun x15 w4 =>
 pN Try.prog (oBin .lss 3 (.tmp 13) (.tmp 15) i5l3 x15) w4 fun x16 w5 =>
 pGd (gB x16 false) (pN Try.prog (oMv i5l3) w5) w5 fun x18 w6 =>
 pGd (gB x16 false) (pN Try.prog (oBin .eql 3 (.tmp 18) (.const (.int .i64 0)) x18 (.int .i64 0)) w6) w6 fun x19 w7 =>
 pN Try.prog (oPick x16 (.bool true) x19) w7 fun x20 w8 =>
 pIf x20
 (∃ I4 : World → Prop,
 (∃ I8 : Value → World → Prop,
 (pN Try.prog (oBi .len #[23] 3 [false] [x0]) w8 fun x25 w9 =>
 pN Try.prog (oBin .lss 3 (.tmp 23) (.tmp 25) i5l3 x25) w9 fun x26 w10 =>
 pIf x26
 (pN Try.prog (oIdx 23 x0 i5l3) w10 fun x29 w11 =>
 pN Try.prog (oLoad 3 x29) w11 fun x30 w12 =>
 I8 x30 w12)
 (I8 (.int .i64 8) w10)) ∧
 ∀ (_j8 : Env) (n6c8 : Value) (w13 : World), I8 n6c8 w13 →
 ∃ I10 : Value → World → Prop,
 (pN Try.prog (oBin .lss 3 (.tmp 31) (.const (.int .i64 0)) n6c8 (.int .i64 0)) w13 fun x32 w14 =>
 pGd (gB x32 false) (pN Try.prog (oMv n6c8) w14) w14 fun x34 w15 =>
 pGd (gB x32 false) (pN Try.prog (oBin .gtr 3 (.tmp 34) (.const (.int .i64 4096)) x34 (.int .i64 4096)) w15) w15 fun x35 w16 =>
 pN Try.prog (oPick x32 (.bool true) x35) w16 fun x36 w17 =>
 pIf x36
 (I10 (.int .i64 4096) w17)
 (I10 n6c8 w17)) ∧
 ∀ (_j10 : Env) (n6c10 : Value) (w18 : World), I10 n6c10 w18 →
 pN Try.prog (oCall 45 [n6c10]) w18 fun x39 w19 =>
 pN Try.prog (oExt x39 0) w19 fun x40 w20 =>
 pN Try.prog (oExt x39 1) w20 fun x41 w21 =>
 pN Try.prog (oCall 46 [n6c10]) w21 fun x44 w22 =>
 pN Try.prog (oExt x44 0) w22 fun x45 w23 =>
 pN Try.prog (oExt x44 1) w23 fun _ w24 =>
 pN Try.prog (oBin .neq 27 (.tmp 47) (.const (.int .i64 0)) x41 (.int .i64 0)) w24 fun x48 w25 =>
 pGd (gB x48 false) (pN Try.prog (oMv x40) w25) w25 fun x50 w26 =>
 pGd (gB x48 false) (pN Try.prog (oBin .eql 34 (.tmp 50) (.const (.pointer none)) x50 (.pointer none)) w26) w26 fun x51 w27 =>
 pN Try.prog (oPick x48 (.bool true) x51) w27 fun x52 w28 =>
 pIf x52
 (Q (.tuple #[(.pointer none), (.bool false)]) w28)
 (pN Try.prog (oNil x12) w28 fun x55 w29 =>
 pN Try.prog (oFld 130 x55 0) w29 fun x56 w30 =>
 pN Try.prog (oLoad 127 x56) w30 fun x57 w31 =>
 pN Try.prog (oBs 127 1 [(0, x40)]) w31 fun x59 w32 =>
 pN Try.prog (oBi .append #[127, 127] 127 [false, false] [x57, x59]) w32 fun x60 w33 =>
 pN Try.prog (oNil x12) w33 fun x61 w34 =>
 pN Try.prog (oFld 130 x61 0) w34 fun x62 w35 =>
 pN Try.prog (oStore 127 x62 x60) w35 fun _ w36 =>
 pN Try.prog (oNil x12) w36 fun x65 w37 =>
 pN Try.prog (oFld 130 x65 1) w37 fun x66 w38 =>
 pN Try.prog (oLoad 128 x66) w38 fun x67 w39 =>
 pN Try.prog (oBs 128 1 [(0, x45)]) w39 fun x69 w40 =>
 pN Try.prog (oBi .append #[128, 128] 128 [false, false] [x67, x69]) w40 fun x70 w41 =>
 pN Try.prog (oNil x12) w41 fun x71 w42 =>
 pN Try.prog (oFld 130 x71 1) w42 fun x72 w43 =>
 pN Try.prog (oStore 128 x72 x70) w43 fun _ w44 =>
 I4 w44)) ∧
 ∀ (_j4 : Env) (w45 : World), I4 w45 →
 pN Try.prog (oBin .add 3 (.tmp 21) (.const (.int .i64 1)) i5l3 (.int .i64 1)) w45 fun x22 w46 =>
 (L3 x22 w46 ∧ m3 x22 w46 < m3 i5l3 w3))
 (Q (.tuple #[x12, (.bool true)]) w8)
noncomputable def pithlaw09_made.c : Code := match Try.f66.body with | some c => c | none => .skip
theorem pithlaw09_made.eq [Pan] (x0 : Value) (w : World) (Q : Value → World → Prop) : cw Try.prog pithlaw09_made.H pithlaw09_made.c (endQ Try.prog Try.f66.results.toList Q) (argsE [x0]) w = pithlaw09_made.F x0 w Q := by kernel_rfl
theorem pithlaw09_made.calls [Pan] {x0 : Value} {w : World} {Q : Value → World → Prop} (h : pithlaw09_made.F x0 w Q) : Calls Try.prog 66 #[x0] w (retP Q) :=
  calls_of_cw (H := pithlaw09_made.H) (c := pithlaw09_made.c) (args := [x0]) mixed Try.func66 (by kernel_rfl) (by kernel_rfl) (Nat.le_of_ble_eq_true (by kernel_rfl)) ((pithlaw09_made.eq x0 w Q).mpr h)

/-! pithlaw09_rows_codes: (*pith/pithlaw09.rows).codes; temporaries: 0:w 1:e 2:x 3:o 4:w 5:e 6:x 7:o 9:s 10:r 11:a 12:f 13:b 14:g 15:c 16:h 17:d 18:i -/
def pithlaw09_rows_codes.H : Hints := { cut := fun  | _ => none, loop := fun  | _ => ([], 0), order := fun | 1 => [(0, 0), (1, 1), (2, 3), (3, 7), (4, 15), (5, 31), (6, 63), (7, 127), (8, 255), (9, 511)] | 2 => [(0, 0), (1, 1), (2, 3), (3, 7), (4, 15), (5, 31), (6, 63), (7, 127), (8, 255), (9, 511)] | 5 => [(0, 0), (1, 1), (2, 3), (3, 7), (4, 15), (5, 31), (6, 63), (7, 127), (9, 255), (10, 767), (11, 1791), (12, 3839), (13, 7935), (14, 16127), (15, 32511), (16, 65279), (8, 130815), (17, 131071), (18, 262143), (19, 524287)] | 7 => [(0, 0), (1, 1), (2, 3), (3, 7), (4, 15), (5, 31), (6, 63), (7, 127), (9, 255), (10, 767), (11, 1791), (12, 3839), (13, 7935), (14, 16127), (15, 32511), (16, 65279), (8, 130815), (17, 131071), (18, 262143), (19, 524287)] | 9 => [(0, 0), (1, 1), (2, 3), (3, 7), (4, 15), (5, 31), (7, 63), (8, 191), (9, 447), (10, 959), (11, 1983), (12, 4031), (6, 8127), (13, 8191), (14, 16383), (15, 32767)] | 11 => [(0, 0), (1, 1), (2, 3), (3, 7), (4, 15), (5, 31), (7, 63), (8, 191), (9, 447), (10, 959), (11, 1983), (12, 4031), (6, 8127), (13, 8191), (14, 16383), (15, 32767)] | _ => [] }
def pithlaw09_rows_codes.F [Pan] (x0 : Value) (x1 : Value) (x2 : Value) (x3 : Value) (w : World) (Q : Value → World → Prop) : Prop :=
 pN Try.prog (oBox 116 x3) w fun x7 w1 =>
 pDr w1 fun w2 =>
 pA Try.prog (oNil x0) fun x20 =>
 pA Try.prog (oFld 130 x20 0) fun x21 =>
 pL Try.prog (oLoad 127 x21) w2 fun x22 =>
 pL Try.prog (oLoad 116 x7) w2 fun x24 =>
 pN Try.prog (oCall 98 [x0, x24]) w2 fun x25 w3 =>
 ((Sem.run Try.prog (oLoad 127 x21) w3 = .ok (.value x22) w3) ∧ True) ∧ (pA Try.prog (oIdx 127 x22 x25) fun x26 =>
 pL Try.prog (oLoad 34 x26) w3 fun x27 =>
 pDr w3 fun w4 =>
 pA Try.prog (oNil x0) fun x29 =>
 pA Try.prog (oFld 130 x29 1) fun x30 =>
 pL Try.prog (oLoad 128 x30) w4 fun x31 =>
 pL Try.prog (oLoad 116 x7) w4 fun x33 =>
 pN Try.prog (oCall 98 [x0, x33]) w4 fun x34 w5 =>
 ((Sem.run Try.prog (oLoad 128 x30) w5 = .ok (.value x31) w5) ∧ True) ∧ (pA Try.prog (oIdx 128 x31 x34) fun x35 =>
 pL Try.prog (oLoad 51 x35) w5 fun x36 =>
 pN Try.prog (oFld 116 x7 0) w5 fun x37 w6 =>
 pN Try.prog (oLoad 3 x37) w6 fun x38 w7 =>
 pN Try.prog (oBin .eql 3 (.tmp 38) (.const (.int .i64 0)) x38 (.int .i64 0)) w7 fun x40 w8 =>
 pIf x40
 (pDr w8 fun w9 =>
 pA Try.prog (oFld 116 x7 2) fun x43 =>
 pL Try.prog (oLoad 3 x43) w9 fun x44 =>
 pA Try.prog (oFld 116 x7 3) fun x45 =>
 pL Try.prog (oLoad 3 x45) w9 fun x46 =>
 pA Try.prog (oFld 116 x7 4) fun x47 =>
 pL Try.prog (oLoad 3 x47) w9 fun x48 =>
 pA Try.prog (oFld 116 x7 2) fun x52 =>
 pL Try.prog (oLoad 3 x52) w9 fun x53 =>
 pA Try.prog (oFld 116 x7 3) fun x54 =>
 pL Try.prog (oLoad 3 x54) w9 fun x55 =>
 pA Try.prog (oFld 116 x7 4) fun x56 =>
 pL Try.prog (oLoad 3 x56) w9 fun x57 =>
 pN Try.prog (oCall 61 [x1, x27, x44, x46, x48]) w9 fun x49 w10 =>
 ((Sem.run Try.prog (oLoad 3 x56) w10 = .ok (.value x57) w10) ∧ (Sem.run Try.prog (oLoad 3 x54) w10 = .ok (.value x55) w10) ∧ (Sem.run Try.prog (oLoad 3 x52) w10 = .ok (.value x53) w10) ∧ True) ∧ (pN Try.prog (oCall 99 [x2, x36, x53, x55, x57, (.bool false)]) w10 fun x58 w11 =>
 (True) ∧ (pA Try.prog (oBin .eql 3 (.tmp 49) (.tmp 58) x49 x58) fun x59 =>
 Q x59 w11)))
 (pN Try.prog (oBin .eql 3 (.tmp 38) (.const (.int .i64 1)) x38 (.int .i64 1)) w8 fun x61 w12 =>
 pIf x61
 (pDr w12 fun w13 =>
 pA Try.prog (oFld 116 x7 2) fun x64 =>
 pL Try.prog (oLoad 3 x64) w13 fun x65 =>
 pA Try.prog (oFld 116 x7 3) fun x66 =>
 pL Try.prog (oLoad 3 x66) w13 fun x67 =>
 pA Try.prog (oFld 116 x7 4) fun x68 =>
 pL Try.prog (oLoad 3 x68) w13 fun x69 =>
 pA Try.prog (oFld 116 x7 2) fun x73 =>
 pL Try.prog (oLoad 3 x73) w13 fun x74 =>
 pA Try.prog (oFld 116 x7 3) fun x75 =>
 pL Try.prog (oLoad 3 x75) w13 fun x76 =>
 pA Try.prog (oFld 116 x7 4) fun x77 =>
 pL Try.prog (oLoad 3 x77) w13 fun x78 =>
 pN Try.prog (oCall 60 [x1, x27, x65, x67, x69]) w13 fun x70 w14 =>
 ((Sem.run Try.prog (oLoad 3 x77) w14 = .ok (.value x78) w14) ∧ (Sem.run Try.prog (oLoad 3 x75) w14 = .ok (.value x76) w14) ∧ (Sem.run Try.prog (oLoad 3 x73) w14 = .ok (.value x74) w14) ∧ True) ∧ (pN Try.prog (oCall 99 [x2, x36, x74, x76, x78, (.bool true)]) w14 fun x79 w15 =>
 (True) ∧ (pA Try.prog (oBin .eql 3 (.tmp 70) (.tmp 79) x70 x79) fun x80 =>
 Q x80 w15)))
 (pN Try.prog (oBin .eql 3 (.tmp 38) (.const (.int .i64 3)) x38 (.int .i64 3)) w12 fun x82 w16 =>
 pIf x82
 (pDr w16 fun w17 =>
 pA Try.prog (oFld 116 x7 2) fun x85 =>
 pL Try.prog (oLoad 3 x85) w17 fun x86 =>
 pA Try.prog (oFld 116 x7 4) fun x87 =>
 pL Try.prog (oLoad 3 x87) w17 fun x88 =>
 pA Try.prog (oFld 116 x7 2) fun x92 =>
 pL Try.prog (oLoad 3 x92) w17 fun x93 =>
 pA Try.prog (oFld 116 x7 4) fun x94 =>
 pL Try.prog (oLoad 3 x94) w17 fun x95 =>
 pN Try.prog (oCall 27 [x1, x27, x86, x88]) w17 fun x89 w18 =>
 ((Sem.run Try.prog (oLoad 3 x94) w18 = .ok (.value x95) w18) ∧ (Sem.run Try.prog (oLoad 3 x92) w18 = .ok (.value x93) w18) ∧ True) ∧ (pN Try.prog (oCall 31 [x2, x36, x93, x95]) w18 fun x96 w19 =>
 (True) ∧ (pA Try.prog (oBin .eql 3 (.tmp 89) (.tmp 96) x89 x96) fun x97 =>
 Q x97 w19)))
 (pN Try.prog (oBin .eql 3 (.tmp 38) (.const (.int .i64 4)) x38 (.int .i64 4)) w16 fun x99 w20 =>
 pIf x99
 (pDr w20 fun w21 =>
 pA Try.prog (oFld 116 x7 4) fun x101 =>
 pL Try.prog (oLoad 3 x101) w21 fun x102 =>
 pL Try.prog (oConv 3 26 x102) w21 fun x103 =>
 pA Try.prog (oFld 116 x7 3) fun x104 =>
 pL Try.prog (oLoad 3 x104) w21 fun x105 =>
 pA Try.prog (oFld 116 x7 4) fun x108 =>
 pL Try.prog (oLoad 3 x108) w21 fun x109 =>
 pL Try.prog (oConv 3 26 x109) w21 fun x110 =>
 pA Try.prog (oFld 116 x7 3) fun x111 =>
 pL Try.prog (oLoad 3 x111) w21 fun x112 =>
 pN Try.prog (oCall 19 [x1, x103, x105]) w21 fun x106 w22 =>
 ((Sem.run Try.prog (oLoad 3 x111) w22 = .ok (.value x112) w22) ∧ (Sem.run Try.prog (oConv 3 26 x109) w22 = .ok (.value x110) w22) ∧ (Sem.run Try.prog (oLoad 3 x108) w22 = .ok (.value x109) w22) ∧ True) ∧ (pN Try.prog (oCall 32 [x2, x110, x112]) w22 fun x113 w23 =>
 (True) ∧ (pA Try.prog (oBin .eql 3 (.tmp 106) (.tmp 113) x106 x113) fun x114 =>
 Q x114 w23)))
 (pN Try.prog (oFld 116 x7 2) w20 fun x117 w24 =>
 pN Try.prog (oLoad 3 x117) w24 fun x118 w25 =>
 pN Try.prog (oFld 116 x7 3) w25 fun x119 w26 =>
 pN Try.prog (oLoad 3 x119) w26 fun x120 w27 =>
 pN Try.prog (oFld 116 x7 4) w27 fun x121 w28 =>
 pN Try.prog (oLoad 3 x121) w28 fun x122 w29 =>
 pN Try.prog (oCall 58 [x27, x118, x120, x122]) w29 fun x123 w30 =>
 pN Try.prog (oExt x123 0) w30 fun x124 w31 =>
 pN Try.prog (oExt x123 1) w31 fun x125 w32 =>
 pN Try.prog (oFld 116 x7 2) w32 fun x128 w33 =>
 pN Try.prog (oLoad 3 x128) w33 fun x129 w34 =>
 pN Try.prog (oFld 116 x7 3) w34 fun x130 w35 =>
 pN Try.prog (oLoad 3 x130) w35 fun x131 w36 =>
 pN Try.prog (oFld 116 x7 4) w36 fun x132 w37 =>
 pN Try.prog (oLoad 3 x132) w37 fun x133 w38 =>
 pN Try.prog (oCall 100 [x36, x129, x131, x133, (.bool false)]) w38 fun x134 w39 =>
 pN Try.prog (oExt x134 0) w39 fun x135 w40 =>
 pN Try.prog (oExt x134 1) w40 fun x136 w41 =>
 pN Try.prog (oFld 116 x7 2) w41 fun x139 w42 =>
 pN Try.prog (oLoad 3 x139) w42 fun x140 w43 =>
 pN Try.prog (oFld 116 x7 3) w43 fun x141 w44 =>
 pN Try.prog (oLoad 3 x141) w44 fun x142 w45 =>
 pN Try.prog (oFld 116 x7 4) w45 fun x143 w46 =>
 pN Try.prog (oLoad 3 x143) w46 fun x144 w47 =>
 pN Try.prog (oCall 59 [x27, x140, x142, x144]) w47 fun x145 w48 =>
 pN Try.prog (oExt x145 0) w48 fun x146 w49 =>
 pN Try.prog (oExt x145 1) w49 fun x147 w50 =>
 pN Try.prog (oFld 116 x7 2) w50 fun x150 w51 =>
 pN Try.prog (oLoad 3 x150) w51 fun x151 w52 =>
 pN Try.prog (oFld 116 x7 3) w52 fun x152 w53 =>
 pN Try.prog (oLoad 3 x152) w53 fun x153 w54 =>
 pN Try.prog (oFld 116 x7 4) w54 fun x154 w55 =>
 pN Try.prog (oLoad 3 x154) w55 fun x155 w56 =>
 pN Try.prog (oCall 100 [x36, x151, x153, x155, (.bool true)]) w56 fun x156 w57 =>
 pN Try.prog (oExt x156 0) w57 fun x157 w58 =>
 pN Try.prog (oExt x156 1) w58 fun x158 w59 =>
 pN Try.prog (oBin .eql 3 (.tmp 159) (.tmp 160) x124 x135) w59 fun x161 w60 =>
 pGd (gB x161 true) (pN Try.prog (oMv x125) w60) w60 fun x163 w61 =>
 pGd (gB x161 true) (pN Try.prog (oMv x136) w61) w61 fun x164 w62 =>
 pGd (gB x161 true) (pN Try.prog (oBin .eql 3 (.tmp 163) (.tmp 164) x163 x164) w62) w62 fun x165 w63 =>
 pN Try.prog (oPick x161 x165 (.bool false)) w63 fun x166 w64 =>
 pGd (gB x166 true) (pN Try.prog (oMv x146) w64) w64 fun x168 w65 =>
 pGd (gB x166 true) (pN Try.prog (oMv x157) w65) w65 fun x169 w66 =>
 pGd (gB x166 true) (pN Try.prog (oBin .eql 3 (.tmp 168) (.tmp 169) x168 x169) w66) w66 fun x170 w67 =>
 pN Try.prog (oPick x166 x170 (.bool false)) w67 fun x171 w68 =>
 pGd (gB x171 true) (pN Try.prog (oMv x147) w68) w68 fun x173 w69 =>
 pGd (gB x171 true) (pN Try.prog (oMv x158) w69) w69 fun x174 w70 =>
 pGd (gB x171 true) (pN Try.prog (oBin .eql 3 (.tmp 173) (.tmp 174) x173 x174) w70) w70 fun x175 w71 =>
 pN Try.prog (oPick x171 x175 (.bool false)) w71 fun x176 w72 =>
 Q x176 w72))))))
noncomputable def pithlaw09_rows_codes.c : Code := match Try.f67.body with | some c => c | none => .skip
theorem pithlaw09_rows_codes.eq [Pan] (x0 : Value) (x1 : Value) (x2 : Value) (x3 : Value) (w : World) (Q : Value → World → Prop) : cw Try.prog pithlaw09_rows_codes.H pithlaw09_rows_codes.c (endQ Try.prog Try.f67.results.toList Q) (argsE [x0, x1, x2, x3]) w = pithlaw09_rows_codes.F x0 x1 x2 x3 w Q := by kernel_rfl
theorem pithlaw09_rows_codes.calls [Pan] {x0 : Value} {x1 : Value} {x2 : Value} {x3 : Value} {w : World} {Q : Value → World → Prop} (h : pithlaw09_rows_codes.F x0 x1 x2 x3 w Q) : Calls Try.prog 67 #[x0, x1, x2, x3] w (retP Q) :=
  calls_of_cw (H := pithlaw09_rows_codes.H) (c := pithlaw09_rows_codes.c) (args := [x0, x1, x2, x3]) mixed Try.func67 (by kernel_rfl) (by kernel_rfl) (Nat.le_of_ble_eq_true (by kernel_rfl)) ((pithlaw09_rows_codes.eq x0 x1 x2 x3 w Q).mpr h)

/-! pithlaw09_rows_same: (*pith/pithlaw09.rows).same; temporaries: 0:w 1:w 3:k 4:i 5:p 6:e -/
def pithlaw09_rows_same.H : Hints := { cut := fun  | _ => none, loop := fun | 2 => ([3], 4611686018427387900) | 5 => ([4], 4611686018427322484) | _ => ([], 0), order := fun  | _ => [] }
def pithlaw09_rows_same.F [Pan] (x0 : Value) (w : World) (Q : Value → World → Prop) : Prop :=
 ∃ (L2 : Value → World → Prop) (m2 : Value → World → Nat),
 L2 (.int .i64 0) w ∧
 ∀ (_k2 : Env) (k3l2 : Value) (w1 : World), L2 k3l2 w1 →
 pN Try.prog (oNil x0) w1 fun x9 w2 =>
 pN Try.prog (oFld 130 x9 0) w2 fun x10 w3 =>
 pN Try.prog (oLoad 127 x10) w3 fun x11 w4 =>
 pN Try.prog (oBi .len #[127] 3 [false] [x11]) w4 fun x12 w5 =>
 pN Try.prog (oBin .lss 3 (.tmp 7) (.tmp 12) k3l2 x12) w5 fun x13 w6 =>
 pIf x13
 (∃ (L5 : Value → World → Prop) (m5 : Value → World → Nat),
 L5 (.int .i64 0) w6 ∧
 ∀ (_k5 : Env) (i4l5 : Value) (w7 : World), L5 i4l5 w7 →
 pN Try.prog (oNil x0) w7 fun x18 w8 =>
 pN Try.prog (oFld 130 x18 1) w8 fun x19 w9 =>
 pN Try.prog (oLoad 128 x19) w9 fun x20 w10 =>
 pN Try.prog (oIdx 128 x20 k3l2) w10 fun x22 w11 =>
 pN Try.prog (oLoad 51 x22) w11 fun x23 w12 =>
 pN Try.prog (oNil x23) w12 fun x24 w13 =>
 pN Try.prog (oFld 145 x24 1) w13 fun x25 w14 =>
 pN Try.prog (oLoad 23 x25) w14 fun x26 w15 =>
 pN Try.prog (oBi .len #[23] 3 [false] [x26]) w15 fun x27 w16 =>
 pN Try.prog (oBin .lss 3 (.tmp 16) (.tmp 27) i4l5 x27) w16 fun x28 w17 =>
 pIf x28
 (pN Try.prog (oNil x0) w17 fun x33 w18 =>
 pN Try.prog (oFld 130 x33 0) w18 fun x34 w19 =>
 pN Try.prog (oLoad 127 x34) w19 fun x35 w20 =>
 pN Try.prog (oIdx 127 x35 k3l2) w20 fun x37 w21 =>
 pN Try.prog (oLoad 34 x37) w21 fun x38 w22 =>
 pN Try.prog (oCall 28 [x38, i4l5]) w22 fun x40 w23 =>
 pN Try.prog (oExt x40 0) w23 fun x41 w24 =>
 pN Try.prog (oExt x40 1) w24 fun x42 w25 =>
 pN Try.prog (oBin .neq 27 (.tmp 43) (.const (.int .i64 0)) x42 (.int .i64 0)) w25 fun x44 w26 =>
 pGd (gB x44 false) (pN Try.prog (oMv x41) w26) w26 fun x46 w27 =>
 pGd (gB x44 false) (pN Try.prog (oMv x0) w27) w27 fun x47 w28 =>
 pGd (gB x44 false) (pN Try.prog (oNil x47) w28) w28 fun x48 w29 =>
 pGd (gB x44 false) (pN Try.prog (oFld 130 x48 1) w29) w29 fun x49 w30 =>
 pGd (gB x44 false) (pN Try.prog (oLoad 128 x49) w30) w30 fun x50 w31 =>
 pGd (gB x44 false) (pN Try.prog (oMv k3l2) w31) w31 fun x51 w32 =>
 pGd (gB x44 false) (pN Try.prog (oIdx 128 x50 x51) w32) w32 fun x52 w33 =>
 pGd (gB x44 false) (pN Try.prog (oLoad 51 x52) w33) w33 fun x53 w34 =>
 pGd (gB x44 false) (pN Try.prog (oNil x53) w34) w34 fun x54 w35 =>
 pGd (gB x44 false) (pN Try.prog (oFld 145 x54 1) w35) w35 fun x55 w36 =>
 pGd (gB x44 false) (pN Try.prog (oLoad 23 x55) w36) w36 fun x56 w37 =>
 pGd (gB x44 false) (pN Try.prog (oMv i4l5) w37) w37 fun x57 w38 =>
 pGd (gB x44 false) (pN Try.prog (oIdx 23 x56 x57) w38) w38 fun x58 w39 =>
 pGd (gB x44 false) (pN Try.prog (oLoad 3 x58) w39) w39 fun x59 w40 =>
 pGd (gB x44 false) (pN Try.prog (oBin .neq 3 (.tmp 46) (.tmp 59) x46 x59) w40) w40 fun x60 w41 =>
 pN Try.prog (oPick x44 (.bool true) x60) w41 fun x61 w42 =>
 pIf x61
 (Q (.bool false) w42)
 (pN Try.prog (oBin .add 3 (.tmp 29) (.const (.int .i64 1)) i4l5 (.int .i64 1)) w42 fun x30 w43 =>
 (L5 x30 w43 ∧ m5 x30 w43 < m5 i4l5 w7)))
 (pN Try.prog (oBin .add 3 (.tmp 14) (.const (.int .i64 1)) k3l2 (.int .i64 1)) w17 fun x15 w44 =>
 (L2 x15 w44 ∧ m2 x15 w44 < m2 k3l2 w1)))
 (Q (.bool true) w6)
noncomputable def pithlaw09_rows_same.c : Code := match Try.f68.body with | some c => c | none => .skip
theorem pithlaw09_rows_same.eq [Pan] (x0 : Value) (w : World) (Q : Value → World → Prop) : cw Try.prog pithlaw09_rows_same.H pithlaw09_rows_same.c (endQ Try.prog Try.f68.results.toList Q) (argsE [x0]) w = pithlaw09_rows_same.F x0 w Q := by kernel_rfl
theorem pithlaw09_rows_same.calls [Pan] {x0 : Value} {w : World} {Q : Value → World → Prop} (h : pithlaw09_rows_same.F x0 w Q) : Calls Try.prog 68 #[x0] w (retP Q) :=
  calls_of_cw (H := pithlaw09_rows_same.H) (c := pithlaw09_rows_same.c) (args := [x0]) mixed Try.func68 (by kernel_rfl) (by kernel_rfl) (Nat.le_of_ble_eq_true (by kernel_rfl)) ((pithlaw09_rows_same.eq x0 w Q).mpr h)

/-! pithlaw09_rows_reads: (*pith/pithlaw09.rows).reads; temporaries: 0:w 1:d 2:x 3:o 4:w 5:d 6:x 7:o 9:s 10:r 11:v 12:u 13:e 14:f 15:a 16:g 17:b 18:h -/
def pithlaw09_rows_reads.H : Hints := { cut := fun | 20 => some ([11, 12, 13, 14], 42535295865117307932921825791532595456) | _ => none, loop := fun  | _ => ([], 0), order := fun | 1 => [(0, 0), (1, 1), (2, 3), (3, 7), (4, 15), (5, 31), (6, 63), (7, 127), (8, 255), (9, 511)] | 2 => [(0, 0), (1, 1), (2, 3), (3, 7), (4, 15), (5, 31), (6, 63), (7, 127), (8, 255), (9, 511)] | _ => [] }
def pithlaw09_rows_reads.F [Pan] (x0 : Value) (x1 : Value) (x2 : Value) (x3 : Value) (w : World) (Q : Value → World → Prop) : Prop :=
 pN Try.prog (oBox 116 x3) w fun x7 w1 =>
 pDr w1 fun w2 =>
 pA Try.prog (oNil x0) fun x20 =>
 pA Try.prog (oFld 130 x20 0) fun x21 =>
 pL Try.prog (oLoad 127 x21) w2 fun x22 =>
 pL Try.prog (oLoad 116 x7) w2 fun x24 =>
 pN Try.prog (oCall 98 [x0, x24]) w2 fun x25 w3 =>
 ((Sem.run Try.prog (oLoad 127 x21) w3 = .ok (.value x22) w3) ∧ True) ∧ (pA Try.prog (oIdx 127 x22 x25) fun x26 =>
 pL Try.prog (oLoad 34 x26) w3 fun x27 =>
 pDr w3 fun w4 =>
 pA Try.prog (oNil x0) fun x29 =>
 pA Try.prog (oFld 130 x29 1) fun x30 =>
 pL Try.prog (oLoad 128 x30) w4 fun x31 =>
 pL Try.prog (oLoad 116 x7) w4 fun x33 =>
 pN Try.prog (oCall 98 [x0, x33]) w4 fun x34 w5 =>
 ((Sem.run Try.prog (oLoad 128 x30) w5 = .ok (.value x31) w5) ∧ True) ∧ (pA Try.prog (oIdx 128 x31 x34) fun x35 =>
 pL Try.prog (oLoad 51 x35) w5 fun x36 =>
 ∃ I20 : Value → Value → Value → Value → World → Prop,
 (pN Try.prog (oFld 116 x7 0) w5 fun x37 w6 =>
 pN Try.prog (oLoad 3 x37) w6 fun x38 w7 =>
 pN Try.prog (oBin .eql 3 (.tmp 38) (.const (.int .i64 0)) x38 (.int .i64 0)) w7 fun x40 w8 =>
 pIf x40
 (pN Try.prog (oFld 116 x7 2) w8 fun x44 w9 =>
 pN Try.prog (oLoad 3 x44) w9 fun x45 w10 =>
 pN Try.prog (oFld 116 x7 3) w10 fun x46 w11 =>
 pN Try.prog (oLoad 3 x46) w11 fun x47 w12 =>
 pN Try.prog (oCall 101 [x1, x27, x45, x47]) w12 fun x48 w13 =>
 pN Try.prog (oExt x48 0) w13 fun x49 w14 =>
 pN Try.prog (oExt x48 1) w14 fun x50 w15 =>
 pN Try.prog (oFld 116 x7 2) w15 fun x54 w16 =>
 pN Try.prog (oLoad 3 x54) w16 fun x55 w17 =>
 pN Try.prog (oFld 116 x7 3) w17 fun x56 w18 =>
 pN Try.prog (oLoad 3 x56) w18 fun x57 w19 =>
 pN Try.prog (oCall 102 [x2, x36, x55, x57, (.bool false)]) w19 fun x58 w20 =>
 pN Try.prog (oExt x58 0) w20 fun x59 w21 =>
 pN Try.prog (oExt x58 1) w21 fun x60 w22 =>
 I20 x49 x59 x50 x60 w22)
 (pN Try.prog (oBin .eql 3 (.tmp 38) (.const (.int .i64 1)) x38 (.int .i64 1)) w8 fun x62 w23 =>
 pIf x62
 (pN Try.prog (oFld 116 x7 2) w23 fun x66 w24 =>
 pN Try.prog (oLoad 3 x66) w24 fun x67 w25 =>
 pN Try.prog (oFld 116 x7 3) w25 fun x68 w26 =>
 pN Try.prog (oLoad 3 x68) w26 fun x69 w27 =>
 pN Try.prog (oCall 103 [x1, x27, x67, x69]) w27 fun x70 w28 =>
 pN Try.prog (oExt x70 0) w28 fun x71 w29 =>
 pN Try.prog (oExt x70 1) w29 fun x72 w30 =>
 pN Try.prog (oFld 116 x7 2) w30 fun x76 w31 =>
 pN Try.prog (oLoad 3 x76) w31 fun x77 w32 =>
 pN Try.prog (oFld 116 x7 3) w32 fun x78 w33 =>
 pN Try.prog (oLoad 3 x78) w33 fun x79 w34 =>
 pN Try.prog (oCall 102 [x2, x36, x77, x79, (.bool true)]) w34 fun x80 w35 =>
 pN Try.prog (oExt x80 0) w35 fun x81 w36 =>
 pN Try.prog (oExt x80 1) w36 fun x82 w37 =>
 I20 x71 x81 x72 x82 w37)
 (pN Try.prog (oBin .eql 3 (.tmp 38) (.const (.int .i64 3)) x38 (.int .i64 3)) w23 fun x84 w38 =>
 pIf x84
 (pN Try.prog (oFld 116 x7 2) w38 fun x88 w39 =>
 pN Try.prog (oLoad 3 x88) w39 fun x89 w40 =>
 pN Try.prog (oCall 49 [x1, x27, x89]) w40 fun x90 w41 =>
 pN Try.prog (oExt x90 0) w41 fun x91 w42 =>
 pN Try.prog (oExt x90 1) w42 fun x92 w43 =>
 pN Try.prog (oFld 116 x7 2) w43 fun x96 w44 =>
 pN Try.prog (oLoad 3 x96) w44 fun x97 w45 =>
 pN Try.prog (oCall 50 [x2, x36, x97]) w45 fun x98 w46 =>
 pN Try.prog (oExt x98 0) w46 fun x99 w47 =>
 pN Try.prog (oExt x98 1) w47 fun x100 w48 =>
 I20 x91 x99 x92 x100 w48)
 (pN Try.prog (oBin .eql 3 (.tmp 38) (.const (.int .i64 4)) x38 (.int .i64 4)) w38 fun x102 w49 =>
 pIf x102
 (pN Try.prog (oFld 116 x7 3) w49 fun x105 w50 =>
 pN Try.prog (oLoad 3 x105) w50 fun x106 w51 =>
 pN Try.prog (oCall 47 [x1, x106]) w51 fun x107 w52 =>
 pN Try.prog (oExt x107 0) w52 fun x108 w53 =>
 pN Try.prog (oExt x107 1) w53 fun x109 w54 =>
 pN Try.prog (oFld 116 x7 3) w54 fun x112 w55 =>
 pN Try.prog (oLoad 3 x112) w55 fun x113 w56 =>
 pN Try.prog (oCall 48 [x2, x113]) w56 fun x114 w57 =>
 pN Try.prog (oExt x114 0) w57 fun x115 w58 =>
 pN Try.prog (oExt x114 1) w58 fun x116 w59 =>
 pN Try.prog (oBin .eql 26 (.tmp 117) (.tmp 118) x108 x115) w59 fun x119 w60 =>
 pGd (gB x119 true) (pN Try.prog (oMv x109) w60) w60 fun x121 w61 =>
 pGd (gB x119 true) (pN Try.prog (oMv x116) w61) w61 fun x122 w62 =>
 pGd (gB x119 true) (pN Try.prog (oBin .eql 3 (.tmp 121) (.tmp 122) x121 x122) w62) w62 fun x123 w63 =>
 pN Try.prog (oPick x119 x123 (.bool false)) w63 fun x124 w64 =>
 Q x124 w64)
 (I20 (.int .i64 0) (.int .i64 0) (.int .i64 0) (.int .i64 0) w49))))) ∧
 ∀ (_j20 : Env) (v11c20 : Value) (u12c20 : Value) (e13c20 : Value) (f14c20 : Value) (w65 : World), I20 v11c20 u12c20 e13c20 f14c20 w65 →
 pN Try.prog (oBin .eql 3 (.tmp 125) (.tmp 126) v11c20 u12c20) w65 fun x127 w66 =>
 pGd (gB x127 true) (pN Try.prog (oMv e13c20) w66) w66 fun x129 w67 =>
 pGd (gB x127 true) (pN Try.prog (oMv f14c20) w67) w67 fun x130 w68 =>
 pGd (gB x127 true) (pN Try.prog (oBin .eql 3 (.tmp 129) (.tmp 130) x129 x130) w68) w68 fun x131 w69 =>
 pN Try.prog (oPick x127 x131 (.bool false)) w69 fun x132 w70 =>
 Q x132 w70))
noncomputable def pithlaw09_rows_reads.c : Code := match Try.f71.body with | some c => c | none => .skip
theorem pithlaw09_rows_reads.eq [Pan] (x0 : Value) (x1 : Value) (x2 : Value) (x3 : Value) (w : World) (Q : Value → World → Prop) : cw Try.prog pithlaw09_rows_reads.H pithlaw09_rows_reads.c (endQ Try.prog Try.f71.results.toList Q) (argsE [x0, x1, x2, x3]) w = pithlaw09_rows_reads.F x0 x1 x2 x3 w Q := by kernel_rfl
theorem pithlaw09_rows_reads.calls [Pan] {x0 : Value} {x1 : Value} {x2 : Value} {x3 : Value} {w : World} {Q : Value → World → Prop} (h : pithlaw09_rows_reads.F x0 x1 x2 x3 w Q) : Calls Try.prog 71 #[x0, x1, x2, x3] w (retP Q) :=
  calls_of_cw (H := pithlaw09_rows_reads.H) (c := pithlaw09_rows_reads.c) (args := [x0, x1, x2, x3]) mixed Try.func71 (by kernel_rfl) (by kernel_rfl) (Nat.le_of_ble_eq_true (by kernel_rfl)) ((pithlaw09_rows_reads.eq x0 x1 x2 x3 w Q).mpr h)

/-! pithlaw09_rows_given: (*pith/pithlaw09.rows).given; temporaries: 0:w 1:e 2:o 3:w 4:e 5:o 7:s -/
def pithlaw09_rows_given.H : Hints := { cut := fun  | _ => none, loop := fun  | _ => ([], 0), order := fun | 1 => [(0, 0), (1, 1), (2, 3), (3, 7), (4, 15), (5, 31), (6, 63), (7, 127), (8, 255), (9, 511)] | _ => [] }
def pithlaw09_rows_given.F [Pan] (x0 : Value) (x1 : Value) (x2 : Value) (w : World) (Q : Value → World → Prop) : Prop :=
 pN Try.prog (oBox 116 x2) w fun x5 w1 =>
 pDr w1 fun w2 =>
 pA Try.prog (oNil x0) fun x9 =>
 pA Try.prog (oFld 130 x9 0) fun x10 =>
 pL Try.prog (oLoad 127 x10) w2 fun x11 =>
 pL Try.prog (oLoad 116 x5) w2 fun x13 =>
 pN Try.prog (oCall 98 [x0, x13]) w2 fun x14 w3 =>
 ((Sem.run Try.prog (oLoad 127 x10) w3 = .ok (.value x11) w3) ∧ True) ∧ (pA Try.prog (oIdx 127 x11 x14) fun x15 =>
 pL Try.prog (oLoad 34 x15) w3 fun x16 =>
 pN Try.prog (oFld 116 x5 0) w3 fun x17 w4 =>
 pN Try.prog (oLoad 3 x17) w4 fun x18 w5 =>
 pN Try.prog (oBin .eql 3 (.tmp 18) (.const (.int .i64 0)) x18 (.int .i64 0)) w5 fun x20 w6 =>
 pIf x20
 (pN Try.prog (oFld 116 x5 2) w6 fun x23 w7 =>
 pN Try.prog (oLoad 3 x23) w7 fun x24 w8 =>
 pN Try.prog (oFld 116 x5 3) w8 fun x25 w9 =>
 pN Try.prog (oLoad 3 x25) w9 fun x26 w10 =>
 pN Try.prog (oFld 116 x5 4) w10 fun x27 w11 =>
 pN Try.prog (oLoad 3 x27) w11 fun x28 w12 =>
 pN Try.prog (oCall 61 [x1, x16, x24, x26, x28]) w12 fun x29 w13 =>
 pN Try.prog (oBin .eql 27 (.tmp 29) (.const (.int .i64 0)) x29 (.int .i64 0)) w13 fun x30 w14 =>
 Q x30 w14)
 (pN Try.prog (oBin .eql 3 (.tmp 18) (.const (.int .i64 1)) x18 (.int .i64 1)) w6 fun x32 w15 =>
 pIf x32
 (pN Try.prog (oFld 116 x5 2) w15 fun x35 w16 =>
 pN Try.prog (oLoad 3 x35) w16 fun x36 w17 =>
 pN Try.prog (oFld 116 x5 3) w17 fun x37 w18 =>
 pN Try.prog (oLoad 3 x37) w18 fun x38 w19 =>
 pN Try.prog (oFld 116 x5 4) w19 fun x39 w20 =>
 pN Try.prog (oLoad 3 x39) w20 fun x40 w21 =>
 pN Try.prog (oCall 60 [x1, x16, x36, x38, x40]) w21 fun x41 w22 =>
 pN Try.prog (oBin .eql 27 (.tmp 41) (.const (.int .i64 0)) x41 (.int .i64 0)) w22 fun x42 w23 =>
 Q x42 w23)
 (pN Try.prog (oBin .eql 3 (.tmp 18) (.const (.int .i64 3)) x18 (.int .i64 3)) w15 fun x44 w24 =>
 pIf x44
 (pN Try.prog (oFld 116 x5 2) w24 fun x47 w25 =>
 pN Try.prog (oLoad 3 x47) w25 fun x48 w26 =>
 pN Try.prog (oFld 116 x5 4) w26 fun x49 w27 =>
 pN Try.prog (oLoad 3 x49) w27 fun x50 w28 =>
 pN Try.prog (oCall 27 [x1, x16, x48, x50]) w28 fun x51 w29 =>
 pN Try.prog (oBin .eql 27 (.tmp 51) (.const (.int .i64 0)) x51 (.int .i64 0)) w29 fun x52 w30 =>
 Q x52 w30)
 (pN Try.prog (oBin .eql 3 (.tmp 18) (.const (.int .i64 4)) x18 (.int .i64 4)) w24 fun x54 w31 =>
 pIf x54
 (pN Try.prog (oFld 116 x5 4) w31 fun x56 w32 =>
 pN Try.prog (oLoad 3 x56) w32 fun x57 w33 =>
 pN Try.prog (oConv 3 26 x57) w33 fun x58 w34 =>
 pN Try.prog (oFld 116 x5 3) w34 fun x59 w35 =>
 pN Try.prog (oLoad 3 x59) w35 fun x60 w36 =>
 pN Try.prog (oCall 19 [x1, x58, x60]) w36 fun x61 w37 =>
 pN Try.prog (oBin .eql 27 (.tmp 61) (.const (.int .i64 0)) x61 (.int .i64 0)) w37 fun x62 w38 =>
 Q x62 w38)
 (Q (.bool false) w31)))))
noncomputable def pithlaw09_rows_given.c : Code := match Try.f72.body with | some c => c | none => .skip
theorem pithlaw09_rows_given.eq [Pan] (x0 : Value) (x1 : Value) (x2 : Value) (w : World) (Q : Value → World → Prop) : cw Try.prog pithlaw09_rows_given.H pithlaw09_rows_given.c (endQ Try.prog Try.f72.results.toList Q) (argsE [x0, x1, x2]) w = pithlaw09_rows_given.F x0 x1 x2 w Q := by kernel_rfl
theorem pithlaw09_rows_given.calls [Pan] {x0 : Value} {x1 : Value} {x2 : Value} {w : World} {Q : Value → World → Prop} (h : pithlaw09_rows_given.F x0 x1 x2 w Q) : Calls Try.prog 72 #[x0, x1, x2] w (retP Q) :=
  calls_of_cw (H := pithlaw09_rows_given.H) (c := pithlaw09_rows_given.c) (args := [x0, x1, x2]) mixed Try.func72 (by kernel_rfl) (by kernel_rfl) (Nat.le_of_ble_eq_true (by kernel_rfl)) ((pithlaw09_rows_given.eq x0 x1 x2 w Q).mpr h)

/-! pithlaw09_rows_got: (*pith/pithlaw09.rows).got; temporaries: 0:w 1:d 2:o 3:w 4:d 5:o 7:s 8:v 9:e 10:v 11:e 12:v 13:e 14:v 15:e -/
def pithlaw09_rows_got.H : Hints := { cut := fun  | _ => none, loop := fun  | _ => ([], 0), order := fun | 1 => [(0, 0), (1, 1), (2, 3), (3, 7), (4, 15), (5, 31), (6, 63), (7, 127), (8, 255), (9, 511)] | 13 => [(0, 0), (1, 1), (2, 3), (3, 7), (4, 15), (5, 31), (6, 63), (7, 127), (8, 255), (9, 511), (10, 1023), (11, 2047), (12, 4095), (13, 8191), (14, 16383), (15, 32767), (16, 65535), (17, 131071)] | _ => [] }
def pithlaw09_rows_got.F [Pan] (x0 : Value) (x1 : Value) (x2 : Value) (w : World) (Q : Value → World → Prop) : Prop :=
 pN Try.prog (oBox 116 x2) w fun x5 w1 =>
 pDr w1 fun w2 =>
 pA Try.prog (oNil x0) fun x17 =>
 pA Try.prog (oFld 130 x17 0) fun x18 =>
 pL Try.prog (oLoad 127 x18) w2 fun x19 =>
 pL Try.prog (oLoad 116 x5) w2 fun x21 =>
 pN Try.prog (oCall 98 [x0, x21]) w2 fun x22 w3 =>
 ((Sem.run Try.prog (oLoad 127 x18) w3 = .ok (.value x19) w3) ∧ True) ∧ (pA Try.prog (oIdx 127 x19 x22) fun x23 =>
 pL Try.prog (oLoad 34 x23) w3 fun x24 =>
 pN Try.prog (oFld 116 x5 0) w3 fun x25 w4 =>
 pN Try.prog (oLoad 3 x25) w4 fun x26 w5 =>
 pN Try.prog (oBin .eql 3 (.tmp 26) (.const (.int .i64 0)) x26 (.int .i64 0)) w5 fun x28 w6 =>
 pIf x28
 (pN Try.prog (oFld 116 x5 2) w6 fun x32 w7 =>
 pN Try.prog (oLoad 3 x32) w7 fun x33 w8 =>
 pN Try.prog (oFld 116 x5 3) w8 fun x34 w9 =>
 pN Try.prog (oLoad 3 x34) w9 fun x35 w10 =>
 pN Try.prog (oCall 101 [x1, x24, x33, x35]) w10 fun x36 w11 =>
 pN Try.prog (oExt x36 0) w11 fun x37 w12 =>
 pN Try.prog (oExt x36 1) w12 fun x38 w13 =>
 pN Try.prog (oFld 116 x5 4) w13 fun x40 w14 =>
 pN Try.prog (oLoad 3 x40) w14 fun x41 w15 =>
 pN Try.prog (oBin .eql 3 (.tmp 39) (.tmp 41) x37 x41) w15 fun x42 w16 =>
 pGd (gB x42 true) (pN Try.prog (oMv x38) w16) w16 fun x44 w17 =>
 pGd (gB x42 true) (pN Try.prog (oBin .eql 27 (.tmp 44) (.const (.int .i64 0)) x44 (.int .i64 0)) w17) w17 fun x45 w18 =>
 pN Try.prog (oPick x42 x45 (.bool false)) w18 fun x46 w19 =>
 Q x46 w19)
 (pN Try.prog (oBin .eql 3 (.tmp 26) (.const (.int .i64 1)) x26 (.int .i64 1)) w6 fun x48 w20 =>
 pIf x48
 (pN Try.prog (oFld 116 x5 2) w20 fun x52 w21 =>
 pN Try.prog (oLoad 3 x52) w21 fun x53 w22 =>
 pN Try.prog (oFld 116 x5 3) w22 fun x54 w23 =>
 pN Try.prog (oLoad 3 x54) w23 fun x55 w24 =>
 pN Try.prog (oCall 103 [x1, x24, x53, x55]) w24 fun x56 w25 =>
 pN Try.prog (oExt x56 0) w25 fun x57 w26 =>
 pN Try.prog (oExt x56 1) w26 fun x58 w27 =>
 pN Try.prog (oFld 116 x5 4) w27 fun x60 w28 =>
 pN Try.prog (oLoad 3 x60) w28 fun x61 w29 =>
 pN Try.prog (oBin .eql 3 (.tmp 59) (.tmp 61) x57 x61) w29 fun x62 w30 =>
 pGd (gB x62 true) (pN Try.prog (oMv x58) w30) w30 fun x64 w31 =>
 pGd (gB x62 true) (pN Try.prog (oBin .eql 27 (.tmp 64) (.const (.int .i64 0)) x64 (.int .i64 0)) w31) w31 fun x65 w32 =>
 pN Try.prog (oPick x62 x65 (.bool false)) w32 fun x66 w33 =>
 Q x66 w33)
 (pN Try.prog (oBin .eql 3 (.tmp 26) (.const (.int .i64 3)) x26 (.int .i64 3)) w20 fun x68 w34 =>
 pIf x68
 (pN Try.prog (oFld 116 x5 2) w34 fun x72 w35 =>
 pN Try.prog (oLoad 3 x72) w35 fun x73 w36 =>
 pN Try.prog (oCall 49 [x1, x24, x73]) w36 fun x74 w37 =>
 pN Try.prog (oExt x74 0) w37 fun x75 w38 =>
 pN Try.prog (oExt x74 1) w38 fun x76 w39 =>
 pN Try.prog (oFld 116 x5 4) w39 fun x78 w40 =>
 pN Try.prog (oLoad 3 x78) w40 fun x79 w41 =>
 pN Try.prog (oCall 104 [x79]) w41 fun x80 w42 =>
 pN Try.prog (oBin .eql 3 (.tmp 77) (.tmp 80) x75 x80) w42 fun x81 w43 =>
 pGd (gB x81 true) (pN Try.prog (oMv x76) w43) w43 fun x83 w44 =>
 pGd (gB x81 true) (pN Try.prog (oBin .eql 27 (.tmp 83) (.const (.int .i64 0)) x83 (.int .i64 0)) w44) w44 fun x84 w45 =>
 pN Try.prog (oPick x81 x84 (.bool false)) w45 fun x85 w46 =>
 Q x85 w46)
 (pN Try.prog (oFld 116 x5 3) w34 fun x88 w47 =>
 pN Try.prog (oLoad 3 x88) w47 fun x89 w48 =>
 pN Try.prog (oCall 47 [x1, x89]) w48 fun x90 w49 =>
 pN Try.prog (oExt x90 0) w49 fun x91 w50 =>
 pN Try.prog (oExt x90 1) w50 fun x92 w51 =>
 pDr w51 fun w52 =>
 pA Try.prog (oBin .eql 27 (.tmp 93) (.const (.int .i64 0)) x92 (.int .i64 0)) fun x94 =>
 gA (gB x94 true) (pA Try.prog (oMv x91)) fun x96 =>
 gA (gB x94 true) (pA Try.prog (oFld 116 x5 4)) fun x97 =>
 gA (gB x94 true) (pL Try.prog (oLoad 3 x97) w52) fun x98 =>
 gA (gB x94 true) (pL Try.prog (oConv 3 26 x98) w52) fun x99 =>
 gA (gB x94 true) (pA Try.prog (oFld 116 x5 3)) fun x100 =>
 gA (gB x94 true) (pL Try.prog (oLoad 3 x100) w52) fun x101 =>
 gA (gB x94 true) (pA Try.prog (oBin .sub 3 (.const (.int .i64 32)) (.tmp 101) (.int .i64 32) x101)) fun x102 =>
 gA (gB x94 true) (pA Try.prog (oBin .shl 26 (.tmp 99) (.tmp 102) x99 x102)) fun x103 =>
 gA (gB x94 true) (pA Try.prog (oFld 116 x5 3)) fun x104 =>
 gA (gB x94 true) (pL Try.prog (oLoad 3 x104) w52) fun x105 =>
 gA (gB x94 true) (pA Try.prog (oBin .sub 3 (.const (.int .i64 32)) (.tmp 105) (.int .i64 32) x105)) fun x106 =>
 gA (gB x94 true) (pA Try.prog (oBin .shr 26 (.tmp 103) (.tmp 106) x103 x106)) fun x107 =>
 gA (gB x94 true) (pA Try.prog (oBin .eql 26 (.tmp 96) (.tmp 107) x96 x107)) fun x108 =>
 pA Try.prog (oPick x94 x108 (.bool false)) fun x109 =>
 Q x109 w52))))
noncomputable def pithlaw09_rows_got.c : Code := match Try.f73.body with | some c => c | none => .skip
theorem pithlaw09_rows_got.eq [Pan] (x0 : Value) (x1 : Value) (x2 : Value) (w : World) (Q : Value → World → Prop) : cw Try.prog pithlaw09_rows_got.H pithlaw09_rows_got.c (endQ Try.prog Try.f73.results.toList Q) (argsE [x0, x1, x2]) w = pithlaw09_rows_got.F x0 x1 x2 w Q := by kernel_rfl
theorem pithlaw09_rows_got.calls [Pan] {x0 : Value} {x1 : Value} {x2 : Value} {w : World} {Q : Value → World → Prop} (h : pithlaw09_rows_got.F x0 x1 x2 w Q) : Calls Try.prog 73 #[x0, x1, x2] w (retP Q) :=
  calls_of_cw (H := pithlaw09_rows_got.H) (c := pithlaw09_rows_got.c) (args := [x0, x1, x2]) mixed Try.func73 (by kernel_rfl) (by kernel_rfl) (Nat.le_of_ble_eq_true (by kernel_rfl)) ((pithlaw09_rows_got.eq x0 x1 x2 w Q).mpr h)

/-! pithlaw09_rows_of: (*pith/pithlaw09.rows).of; temporaries: 0:w 1:o 2:w 3:o -/
def pithlaw09_rows_of.H : Hints := { cut := fun  | _ => none, loop := fun  | _ => ([], 0), order := fun | 1 => [(0, 0), (1, 1), (2, 3), (3, 7), (4, 15), (5, 31), (6, 63), (7, 127), (8, 255), (9, 511), (10, 1023), (11, 2047), (12, 4095)] | _ => [] }
def pithlaw09_rows_of.F [Pan] (x0 : Value) (x1 : Value) (w : World) (Q : Value → World → Prop) : Prop :=
 pN Try.prog (oBox 116 x1) w fun x3 w1 =>
 pDr w1 fun w2 =>
 pA Try.prog (oFld 116 x3 1) fun x5 =>
 pL Try.prog (oLoad 3 x5) w2 fun x6 =>
 pA Try.prog (oBin .lss 3 (.tmp 6) (.const (.int .i64 0)) x6 (.int .i64 0)) fun x7 =>
 gA (gB x7 false) (pA Try.prog (oFld 116 x3 1)) fun x9 =>
 gA (gB x7 false) (pL Try.prog (oLoad 3 x9) w2) fun x10 =>
 gA (gB x7 false) (pA Try.prog (oMv x0)) fun x11 =>
 gA (gB x7 false) (pA Try.prog (oNil x11)) fun x12 =>
 gA (gB x7 false) (pA Try.prog (oFld 130 x12 0)) fun x13 =>
 gA (gB x7 false) (pL Try.prog (oLoad 127 x13) w2) fun x14 =>
 gA (gB x7 false) (pA Try.prog (oBi .len #[127] 3 [false] [x14])) fun x15 =>
 gA (gB x7 false) (pA Try.prog (oBin .geq 3 (.tmp 10) (.tmp 15) x10 x15)) fun x16 =>
 pA Try.prog (oPick x7 (.bool true) x16) fun x17 =>
 pIf x17
 (Q (.int .i64 0) w2)
 (pN Try.prog (oFld 116 x3 1) w2 fun x18 w3 =>
 pN Try.prog (oLoad 3 x18) w3 fun x19 w4 =>
 Q x19 w4)
noncomputable def pithlaw09_rows_of.c : Code := match Try.f98.body with | some c => c | none => .skip
theorem pithlaw09_rows_of.eq [Pan] (x0 : Value) (x1 : Value) (w : World) (Q : Value → World → Prop) : cw Try.prog pithlaw09_rows_of.H pithlaw09_rows_of.c (endQ Try.prog Try.f98.results.toList Q) (argsE [x0, x1]) w = pithlaw09_rows_of.F x0 x1 w Q := by kernel_rfl
theorem pithlaw09_rows_of.calls [Pan] {x0 : Value} {x1 : Value} {w : World} {Q : Value → World → Prop} (h : pithlaw09_rows_of.F x0 x1 w Q) : Calls Try.prog 98 #[x0, x1] w (retP Q) :=
  calls_of_cw (H := pithlaw09_rows_of.H) (c := pithlaw09_rows_of.c) (args := [x0, x1]) mixed Try.func98 (by kernel_rfl) (by kernel_rfl) (Nat.le_of_ble_eq_true (by kernel_rfl)) ((pithlaw09_rows_of.eq x0 x1 w Q).mpr h)

/-! pithlaw09_bit: pith/pithlaw09.bit; temporaries: 0:v 1:v -/
def pithlaw09_bit.H : Hints := { cut := fun  | _ => none, loop := fun  | _ => ([], 0), order := fun  | _ => [] }
def pithlaw09_bit.F [Pan] (x0 : Value) (w : World) (Q : Value → World → Prop) : Prop :=
 pN Try.prog (oBin .eql 3 (.tmp 3) (.const (.int .i64 0)) x0 (.int .i64 0)) w fun x4 w1 =>
 pIf x4
 (Q (.int .i64 0) w1)
 (Q (.int .i64 1) w1)
noncomputable def pithlaw09_bit.c : Code := match Try.f104.body with | some c => c | none => .skip
theorem pithlaw09_bit.eq [Pan] (x0 : Value) (w : World) (Q : Value → World → Prop) : cw Try.prog pithlaw09_bit.H pithlaw09_bit.c (endQ Try.prog Try.f104.results.toList Q) (argsE [x0]) w = pithlaw09_bit.F x0 w Q := by kernel_rfl
theorem pithlaw09_bit.calls [Pan] {x0 : Value} {w : World} {Q : Value → World → Prop} (h : pithlaw09_bit.F x0 w Q) : Calls Try.prog 104 #[x0] w (retP Q) :=
  calls_of_cw (H := pithlaw09_bit.H) (c := pithlaw09_bit.c) (args := [x0]) mixed Try.func104 (by kernel_rfl) (by kernel_rfl) (Nat.le_of_ble_eq_true (by kernel_rfl)) ((pithlaw09_bit.eq x0 w Q).mpr h)

end Go.Proofs.Ytoejaggkedlfmaa
