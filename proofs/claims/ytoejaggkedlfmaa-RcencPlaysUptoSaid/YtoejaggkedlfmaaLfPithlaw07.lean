/-
  Printed by a program of mine (lift.py): each function of the seat as a plain proposition over values and worlds; that the program meets it.
-/
import Derived.Test.YtoejaggkedlfmaaRows
import Derived.Test.YtoejaggkedlfmaaFacts
namespace Go.Proofs.Ytoejaggkedlfmaa
open Go
set_option linter.unusedSimpArgs false
set_option linter.unnecessarySimpa false
set_option linter.unusedVariables false
set_option maxRecDepth 100000

/-! pithlaw07_RcencDirect: pith/pithlaw07.RcencDirect; temporaries: 0:v 1:n 2:v 3:n 5:e 6:f 7:bits 8:i 9:x 10:k 11:j -/
def pithlaw07_RcencDirect.H : Hints := { cut := fun | 12 => some ([10], 562949819204608) | 20 => some ([7], 590295810358688878480) | _ => none, loop := fun | 7 => ([7, 22], 1180591620717407113104) | 15 => ([11], 73714918700800280592) | _ => ([], 0), order := fun | 21 => [(0, 0), (3, 1), (1, 9), (2, 11), (4, 15), (5, 31), (6, 63), (7, 127), (8, 255), (10, 511), (11, 1535), (12, 3583), (9, 7679), (13, 8191), (14, 16383), (15, 32767), (16, 65535), (19, 131071), (20, 655359), (21, 1703935), (17, 3801087), (18, 3932159), (22, 4194303), (23, 8388607), (24, 16777215)] | _ => [] }
def pithlaw07_RcencDirect.F (x0 : Value) (x1 : Value) (w : World) (Q : Value → World → Prop) : Prop :=
 pN Try.prog (oCall 18 []) w fun x12 w1 =>
 pN Try.prog (oCall 18 []) w1 fun x13 w2 =>
 pN Try.prog (oBin .eql 24 (.tmp 14) (.const (.pointer none)) x12 (.pointer none)) w2 fun x15 w3 =>
 pGd (gB x15 false) (pN Try.prog (oMv x13) w3) w3 fun x17 w4 =>
 pGd (gB x15 false) (pN Try.prog (oBin .eql 24 (.tmp 17) (.const (.pointer none)) x17 (.pointer none)) w4) w4 fun x18 w5 =>
 pN Try.prog (oPick x15 (.bool true) x18) w5 fun x19 w6 =>
 pIf x19
 (Q (.bool false) w6)
 (pN Try.prog (oBi .len #[22] 3 [false] [x0]) w6 fun x21 w7 =>
 ∃ (L7 : Value → Value → World → Prop) (m7 : Value → Value → World → Nat),
 L7 (.int .i64 0) (.int .i64 0) w7 ∧
 ∀ (_k7 : Env) (bits7l7 : Value) (v22l7 : Value) (w8 : World), L7 bits7l7 v22l7 w8 →
 pN Try.prog (oBin .lss 3 (.tmp 22) (.tmp 21) v22l7 x21) w8 fun x23 w9 =>
 pIf x23
 (∃ I20 : Value → World → Prop,
 (pN Try.prog (oIdx 22 x0 v22l7) w9 fun x25 w10 =>
 pN Try.prog (oLoad 26 x25) w10 fun x26 w11 =>
 ∃ I12 : Value → World → Prop,
 (pN Try.prog (oBi .len #[23] 3 [false] [x1]) w11 fun x29 w12 =>
 pN Try.prog (oBin .lss 3 (.tmp 27) (.tmp 29) v22l7 x29) w12 fun x30 w13 =>
 pGd (gB x30 true) (pN Try.prog (oMv x1) w13) w13 fun x32 w14 =>
 pGd (gB x30 true) (pN Try.prog (oMv v22l7) w14) w14 fun x33 w15 =>
 pGd (gB x30 true) (pN Try.prog (oIdx 23 x32 x33) w15) w15 fun x34 w16 =>
 pGd (gB x30 true) (pN Try.prog (oLoad 3 x34) w16) w16 fun x35 w17 =>
 pGd (gB x30 true) (pN Try.prog (oBin .geq 3 (.tmp 35) (.const (.int .i64 0)) x35 (.int .i64 0)) w17) w17 fun x36 w18 =>
 pN Try.prog (oPick x30 x36 (.bool false)) w18 fun x37 w19 =>
 pGd (gB x37 true) (pN Try.prog (oMv x1) w19) w19 fun x39 w20 =>
 pGd (gB x37 true) (pN Try.prog (oMv v22l7) w20) w20 fun x40 w21 =>
 pGd (gB x37 true) (pN Try.prog (oIdx 23 x39 x40) w21) w21 fun x41 w22 =>
 pGd (gB x37 true) (pN Try.prog (oLoad 3 x41) w22) w22 fun x42 w23 =>
 pGd (gB x37 true) (pN Try.prog (oBin .leq 3 (.tmp 42) (.const (.int .i64 32)) x42 (.int .i64 32)) w23) w23 fun x43 w24 =>
 pN Try.prog (oPick x37 x43 (.bool false)) w24 fun x44 w25 =>
 pIf x44
 (pN Try.prog (oIdx 23 x1 v22l7) w25 fun x47 w26 =>
 pN Try.prog (oLoad 3 x47) w26 fun x48 w27 =>
 I12 x48 w27)
 (I12 (.int .i64 32) w25)) ∧
 ∀ (_j12 : Env) (k10c12 : Value) (w28 : World), I12 k10c12 w28 →
 pN Try.prog (oCall 19 [x12, x26, k10c12]) w28 fun x52 w29 =>
 pN Try.prog (oBin .neq 27 (.tmp 52) (.const (.int .i64 0)) x52 (.int .i64 0)) w29 fun x53 w30 =>
 pIf x53
 (Q (.bool false) w30)
 (pN Try.prog (oBin .sub 3 (.tmp 54) (.const (.int .i64 1)) k10c12 (.int .i64 1)) w30 fun x55 w31 =>
 ∃ (L15 : Value → World → Prop) (m15 : Value → World → Nat),
 L15 x55 w31 ∧
 ∀ (_k15 : Env) (j11l15 : Value) (w32 : World), L15 j11l15 w32 →
 pN Try.prog (oBin .geq 3 (.tmp 56) (.const (.int .i64 0)) j11l15 (.int .i64 0)) w32 fun x57 w33 =>
 pIf x57
 (pN Try.prog (oBin .shr 26 (.tmp 61) (.tmp 62) x26 j11l15) w33 fun x63 w34 =>
 pN Try.prog (oCall 19 [x13, x63, (.int .i64 1)]) w34 fun x64 w35 =>
 pN Try.prog (oBin .neq 27 (.tmp 64) (.const (.int .i64 0)) x64 (.int .i64 0)) w35 fun x65 w36 =>
 pIf x65
 (Q (.bool false) w36)
 (pN Try.prog (oBin .sub 3 (.tmp 58) (.const (.int .i64 1)) j11l15 (.int .i64 1)) w36 fun x59 w37 =>
 (L15 x59 w37 ∧ m15 x59 w37 < m15 j11l15 w32)))
 (pN Try.prog (oBin .add 3 (.tmp 66) (.tmp 67) bits7l7 k10c12) w33 fun x68 w38 =>
 I20 x68 w38))) ∧
 ∀ (_j20 : Env) (bits7c20 : Value) (w39 : World), I20 bits7c20 w39 →
 pN Try.prog (oBin .add 3 (.tmp 22) (.const (.int .i64 1)) v22l7 (.int .i64 1)) w39 fun x69 w40 =>
 (L7 bits7c20 x69 w40 ∧ m7 bits7c20 x69 w40 < m7 bits7l7 v22l7 w8))
 (pDr w9 fun w41 =>
 pN Try.prog (oCall 20 [x12]) w41 fun x71 w42 =>
 (True) ∧ (pL Try.prog (oConv 29 9 x71) w42 fun x72 =>
 pN Try.prog (oCall 20 [x13]) w42 fun x74 w43 =>
 ((Sem.run Try.prog (oConv 29 9 x71) w43 = .ok (.value x72) w43) ∧ True) ∧ (pL Try.prog (oConv 29 9 x74) w43 fun x75 =>
 pA Try.prog (oBin .eql 9 (.tmp 72) (.tmp 75) x72 x75) fun x76 =>
 gA (gB x76 true) (pA Try.prog (oMv x12)) fun x78 =>
 gA (gB x76 true) (pA Try.prog (oMv bits7l7)) fun x80 =>
 gA (gB x76 true) (pA Try.prog (oBin .quo 3 (.tmp 80) (.const (.int .i64 8)) x80 (.int .i64 8))) fun x81 =>
 gA (gB x76 true) (pA Try.prog (oBin .add 3 (.tmp 81) (.const (.int .i64 5)) x81 (.int .i64 5))) fun x82 =>
 pGd (gB x76 true) (pN Try.prog (oCall 21 [x78]) w43) w43 fun x79 w44 =>
 (True) ∧ (gA (gB x76 true) (pA Try.prog (oBin .eql 3 (.tmp 79) (.tmp 82) x79 x82)) fun x83 =>
 pA Try.prog (oPick x76 x83 (.bool false)) fun x84 =>
 gA (gB x84 true) (pA Try.prog (oMv x12)) fun x86 =>
 gA (gB x84 true) (pA Try.prog (oMv bits7l7)) fun x89 =>
 gA (gB x84 true) (pA Try.prog (oBin .quo 3 (.tmp 89) (.const (.int .i64 8)) x89 (.int .i64 8))) fun x90 =>
 gA (gB x84 true) (pA Try.prog (oBin .add 3 (.tmp 90) (.const (.int .i64 5)) x90 (.int .i64 5))) fun x91 =>
 pGd (gB x84 true) (pN Try.prog (oCall 20 [x86]) w44) w44 fun x87 w45 =>
 (True) ∧ (gA (gB x84 true) (pA Try.prog (oBi .len #[29] 3 [false] [x87])) fun x88 =>
 gA (gB x84 true) (pA Try.prog (oBin .eql 3 (.tmp 88) (.tmp 91) x88 x91)) fun x92 =>
 pA Try.prog (oPick x84 x92 (.bool false)) fun x93 =>
 Q x93 w45))))))
noncomputable def pithlaw07_RcencDirect.c : Code := match Try.f3.body with | some c => c | none => .skip
theorem pithlaw07_RcencDirect.eq (x0 : Value) (x1 : Value) (w : World) (Q : Value → World → Prop) : cw Try.prog pithlaw07_RcencDirect.H pithlaw07_RcencDirect.c (endQ Try.prog Try.f3.results.toList Q) (argsE [x0, x1]) w = pithlaw07_RcencDirect.F x0 x1 w Q := by kernel_rfl
theorem pithlaw07_RcencDirect.calls {x0 : Value} {x1 : Value} {w : World} {Q : Value → World → Prop} (h : pithlaw07_RcencDirect.F x0 x1 w Q) : Calls Try.prog 3 #[x0, x1] w (retP Q) :=
  calls_of_cw (H := pithlaw07_RcencDirect.H) (c := pithlaw07_RcencDirect.c) (args := [x0, x1]) mixed Try.func3 (by kernel_rfl) (by kernel_rfl) (Nat.le_of_ble_eq_true (by kernel_rfl)) ((pithlaw07_RcencDirect.eq x0 x1 w Q).mpr h)

/-! pithlaw07_RcencOrder: pith/pithlaw07.RcencOrder; temporaries: 0:row 1:differ 2:rest 3:row 4:differ 5:rest 7:e 8:s 9:f 10:t 11:k 12:b 13:_ 14:b 15:_ 16:b -/
def pithlaw07_RcencOrder.H : Hints := { cut := fun | 7 => some ([1], 2196875771906) | _ => none, loop := fun | 8 => ([43], 18889465922682487838784) | 15 => ([80], 19805831702746469769211297856) | 24 => ([119], 10888371127472138372891535534286442659904) | _ => ([], 0), order := fun | 10 => [(0, 0), (1, 1), (2, 3), (3, 7), (5, 15), (6, 47), (4, 111), (7, 127), (8, 255), (9, 511), (10, 1023), (11, 2047), (12, 4095), (13, 8191), (14, 16383), (15, 32767), (16, 65535), (17, 131071), (19, 262143), (20, 786431), (18, 1835007), (21, 2097151), (22, 4194303), (23, 8388607), (24, 16777215)] | 17 => [(0, 0), (1, 1), (2, 3), (3, 7), (5, 15), (6, 47), (4, 111), (7, 127), (8, 255)] | 20 => [(0, 0), (3, 1), (1, 9), (2, 11), (4, 15), (5, 31), (6, 63), (7, 127)] | 21 => [(0, 0), (1, 1), (2, 3), (3, 7), (4, 15), (5, 31), (6, 63), (8, 127), (9, 383), (10, 895), (11, 1919), (12, 3967), (13, 8063), (7, 16255), (14, 16383), (15, 32767)] | 26 => [(0, 0), (1, 1), (2, 3), (3, 7), (5, 15), (6, 47), (4, 111), (7, 127), (8, 255)] | 30 => [(0, 0), (3, 1), (1, 9), (2, 11), (4, 15), (5, 31), (6, 63), (7, 127)] | 31 => [(0, 0), (3, 1), (1, 9), (2, 11), (4, 15), (5, 31), (6, 63), (7, 127)] | _ => [] }
def pithlaw07_RcencOrder.F (x0 : Value) (x1 : Value) (x2 : Value) (w : World) (Q : Value → World → Prop) : Prop :=
 pN Try.prog (oCall 22 []) w fun x18 w1 =>
 pN Try.prog (oExt x18 0) w1 fun x19 w2 =>
 pN Try.prog (oExt x18 1) w2 fun x20 w3 =>
 pN Try.prog (oCall 22 []) w3 fun x22 w4 =>
 pN Try.prog (oExt x22 0) w4 fun x23 w5 =>
 pN Try.prog (oExt x22 1) w5 fun x24 w6 =>
 pN Try.prog (oBin .eql 24 (.tmp 25) (.const (.pointer none)) x19 (.pointer none)) w6 fun x26 w7 =>
 pGd (gB x26 false) (pN Try.prog (oMv x23) w7) w7 fun x28 w8 =>
 pGd (gB x26 false) (pN Try.prog (oBin .eql 24 (.tmp 28) (.const (.pointer none)) x28 (.pointer none)) w8) w8 fun x29 w9 =>
 pN Try.prog (oPick x26 (.bool true) x29) w9 fun x30 w10 =>
 pIf x30
 (Q (.bool false) w10)
 (∃ I7 : Value → World → Prop,
 (pN Try.prog (oBin .lss 3 (.tmp 31) (.const (.int .i64 0)) x1 (.int .i64 0)) w10 fun x32 w11 =>
 pGd (gB x32 false) (pN Try.prog (oMv x1) w11) w11 fun x34 w12 =>
 pGd (gB x32 false) (pN Try.prog (oMv x0) w12) w12 fun x35 w13 =>
 pGd (gB x32 false) (pN Try.prog (oBi .len #[33] 3 [false] [x35]) w13) w13 fun x36 w14 =>
 pGd (gB x32 false) (pN Try.prog (oBin .gtr 3 (.tmp 34) (.tmp 36) x34 x36) w14) w14 fun x37 w15 =>
 pN Try.prog (oPick x32 (.bool true) x37) w15 fun x38 w16 =>
 pIf x38
 (pN Try.prog (oBi .len #[33] 3 [false] [x0]) w16 fun x40 w17 =>
 I7 x40 w17)
 (I7 x1 w16)) ∧
 ∀ (_j7 : Env) (differ1c7 : Value) (w18 : World), I7 differ1c7 w18 →
 pN Try.prog (oBi .len #[33] 3 [false] [x0]) w18 fun x42 w19 =>
 ∃ (L8 : Value → World → Prop) (m8 : Value → World → Nat),
 L8 (.int .i64 0) w19 ∧
 ∀ (_k8 : Env) (v43l8 : Value) (w20 : World), L8 v43l8 w20 →
 pN Try.prog (oBin .lss 3 (.tmp 43) (.tmp 42) v43l8 x42) w20 fun x44 w21 =>
 pIf x44
 (pN Try.prog (oIdx 33 x0 v43l8) w21 fun x46 w22 =>
 pN Try.prog (oLoad 38 x46) w22 fun x47 w23 =>
 pN Try.prog (oAlloc 38) w23 fun x12 w24 =>
 pN Try.prog (oStore 38 x12 x47) w24 fun _ w25 =>
 pDr w25 fun w26 =>
 pA Try.prog (oFld 38 x12 0) fun x50 =>
 pL Try.prog (oLoad 3 x50) w26 fun x51 =>
 pA Try.prog (oFld 38 x12 1) fun x53 =>
 pL Try.prog (oLoad 4 x53) w26 fun x54 =>
 pN Try.prog (oCall 24 [x51]) w26 fun x52 w27 =>
 ((Sem.run Try.prog (oLoad 4 x53) w27 = .ok (.value x54) w27) ∧ True) ∧ (pN Try.prog (oCall 23 [x19, x20, x52, x54]) w27 fun x55 w28 =>
 (True) ∧ (pA Try.prog (oUn .not x55) fun x56 =>
 gA (gB x56 false) (pA Try.prog (oMv v43l8)) fun x58 =>
 gA (gB x56 false) (pA Try.prog (oMv differ1c7)) fun x59 =>
 gA (gB x56 false) (pA Try.prog (oBin .lss 3 (.tmp 58) (.tmp 59) x58 x59)) fun x60 =>
 gA (gB x56 false) (pA Try.prog (oMv x60)) fun x61 =>
 gA (gB x61 true) (pA Try.prog (oMv x23)) fun x62 =>
 gA (gB x61 true) (pA Try.prog (oMv x24)) fun x63 =>
 gA (gB x61 true) (pA Try.prog (oFld 38 x12 0)) fun x64 =>
 gA (gB x61 true) (pL Try.prog (oLoad 3 x64) w28) fun x65 =>
 gA (gB x61 true) (pA Try.prog (oFld 38 x12 1)) fun x67 =>
 gA (gB x61 true) (pL Try.prog (oLoad 4 x67) w28) fun x68 =>
 pGd (gB x61 true) (pN Try.prog (oCall 24 [x65]) w28) w28 fun x66 w29 =>
 ((((gB x61 true) = true → Sem.run Try.prog (oLoad 4 x67) w29 = .ok (.value x68) w29)) ∧ True) ∧ (pGd (gB x61 true) (pN Try.prog (oCall 23 [x62, x63, x66, x68]) w29) w29 fun x69 w30 =>
 (True) ∧ (gA (gB x61 true) (pA Try.prog (oUn .not x69)) fun x70 =>
 gA (gB x56 false) (pA Try.prog (oPick x61 x70 (.bool false))) fun x71 =>
 pA Try.prog (oPick x56 (.bool true) x71) fun x72 =>
 pIf x72
 (Q (.bool false) w30)
 (pN Try.prog (oBin .add 3 (.tmp 43) (.const (.int .i64 1)) v43l8 (.int .i64 1)) w30 fun x73 w31 =>
 (L8 x73 w31 ∧ m8 x73 w31 < m8 v43l8 w20)))))))
 (pN Try.prog (oBi .len #[33] 3 [false] [x0]) w21 fun x76 w32 =>
 pN Try.prog (oBin .eql 3 (.tmp 74) (.tmp 76) differ1c7 x76) w32 fun x77 w33 =>
 pIf x77
 (pN Try.prog (oBi .len #[33] 3 [false] [x2]) w33 fun x79 w34 =>
 ∃ (L15 : Value → World → Prop) (m15 : Value → World → Nat),
 L15 (.int .i64 0) w34 ∧
 ∀ (_k15 : Env) (v80l15 : Value) (w35 : World), L15 v80l15 w35 →
 pN Try.prog (oBin .lss 3 (.tmp 80) (.tmp 79) v80l15 x79) w35 fun x81 w36 =>
 pIf x81
 (pN Try.prog (oIdx 33 x2 v80l15) w36 fun x82 w37 =>
 pN Try.prog (oLoad 38 x82) w37 fun x83 w38 =>
 pN Try.prog (oAlloc 38) w38 fun x14 w39 =>
 pN Try.prog (oStore 38 x14 x83) w39 fun _ w40 =>
 pDr w40 fun w41 =>
 pA Try.prog (oFld 38 x14 0) fun x86 =>
 pL Try.prog (oLoad 3 x86) w41 fun x87 =>
 pA Try.prog (oFld 38 x14 1) fun x89 =>
 pL Try.prog (oLoad 4 x89) w41 fun x90 =>
 pN Try.prog (oCall 24 [x87]) w41 fun x88 w42 =>
 ((Sem.run Try.prog (oLoad 4 x89) w42 = .ok (.value x90) w42) ∧ True) ∧ (pN Try.prog (oCall 23 [x23, x24, x88, x90]) w42 fun x91 w43 =>
 (True) ∧ (pA Try.prog (oUn .not x91) fun x92 =>
 pIf x92
 (Q (.bool false) w43)
 (pN Try.prog (oBin .add 3 (.tmp 80) (.const (.int .i64 1)) v80l15 (.int .i64 1)) w43 fun x93 w44 =>
 (L15 x93 w44 ∧ m15 x93 w44 < m15 v80l15 w35)))))
 (pDr w36 fun w45 =>
 pN Try.prog (oCall 20 [x19]) w45 fun x95 w46 =>
 (True) ∧ (pL Try.prog (oConv 29 9 x95) w46 fun x96 =>
 pN Try.prog (oCall 20 [x23]) w46 fun x98 w47 =>
 ((Sem.run Try.prog (oConv 29 9 x95) w47 = .ok (.value x96) w47) ∧ True) ∧ (pL Try.prog (oConv 29 9 x98) w47 fun x99 =>
 pA Try.prog (oBin .leq 9 (.tmp 96) (.tmp 99) x96 x99) fun x100 =>
 Q x100 w47))))
 (pDr w33 fun w48 =>
 pA Try.prog (oIdx 33 x0 differ1c7) fun x105 =>
 pA Try.prog (oFld 38 x105 0) fun x106 =>
 pL Try.prog (oLoad 3 x106) w48 fun x107 =>
 pA Try.prog (oIdx 33 x0 differ1c7) fun x111 =>
 pA Try.prog (oFld 38 x111 1) fun x112 =>
 pL Try.prog (oLoad 4 x112) w48 fun x113 =>
 pA Try.prog (oUn .not x113) fun x114 =>
 pN Try.prog (oCall 24 [x107]) w48 fun x108 w49 =>
 ((Sem.run Try.prog (oLoad 4 x112) w49 = .ok (.value x113) w49) ∧ True) ∧ (pN Try.prog (oCall 23 [x23, x24, x108, x114]) w49 fun x115 w50 =>
 (True) ∧ (pA Try.prog (oUn .not x115) fun x116 =>
 pIf x116
 (Q (.bool false) w50)
 (pN Try.prog (oBi .len #[33] 3 [false] [x2]) w50 fun x118 w51 =>
 ∃ (L24 : Value → World → Prop) (m24 : Value → World → Nat),
 L24 (.int .i64 0) w51 ∧
 ∀ (_k24 : Env) (v119l24 : Value) (w52 : World), L24 v119l24 w52 →
 pN Try.prog (oBin .lss 3 (.tmp 119) (.tmp 118) v119l24 x118) w52 fun x120 w53 =>
 pIf x120
 (pN Try.prog (oIdx 33 x2 v119l24) w53 fun x121 w54 =>
 pN Try.prog (oLoad 38 x121) w54 fun x122 w55 =>
 pN Try.prog (oAlloc 38) w55 fun x16 w56 =>
 pN Try.prog (oStore 38 x16 x122) w56 fun _ w57 =>
 pDr w57 fun w58 =>
 pA Try.prog (oFld 38 x16 0) fun x125 =>
 pL Try.prog (oLoad 3 x125) w58 fun x126 =>
 pA Try.prog (oFld 38 x16 1) fun x128 =>
 pL Try.prog (oLoad 4 x128) w58 fun x129 =>
 pN Try.prog (oCall 24 [x126]) w58 fun x127 w59 =>
 ((Sem.run Try.prog (oLoad 4 x128) w59 = .ok (.value x129) w59) ∧ True) ∧ (pN Try.prog (oCall 23 [x23, x24, x127, x129]) w59 fun x130 w60 =>
 (True) ∧ (pA Try.prog (oUn .not x130) fun x131 =>
 pIf x131
 (Q (.bool false) w60)
 (pN Try.prog (oBin .add 3 (.tmp 119) (.const (.int .i64 1)) v119l24 (.int .i64 1)) w60 fun x132 w61 =>
 (L24 x132 w61 ∧ m24 x132 w61 < m24 v119l24 w52)))))
 (pN Try.prog (oIdx 33 x0 differ1c7) w53 fun x135 w62 =>
 pN Try.prog (oFld 38 x135 1) w62 fun x136 w63 =>
 pN Try.prog (oLoad 4 x136) w63 fun x137 w64 =>
 pIf x137
 (pDr w64 fun w65 =>
 pN Try.prog (oCall 20 [x23]) w65 fun x139 w66 =>
 (True) ∧ (pL Try.prog (oConv 29 9 x139) w66 fun x140 =>
 pN Try.prog (oCall 20 [x19]) w66 fun x142 w67 =>
 ((Sem.run Try.prog (oConv 29 9 x139) w67 = .ok (.value x140) w67) ∧ True) ∧ (pL Try.prog (oConv 29 9 x142) w67 fun x143 =>
 pA Try.prog (oBin .lss 9 (.tmp 140) (.tmp 143) x140 x143) fun x144 =>
 Q x144 w67)))
 (pDr w64 fun w68 =>
 pN Try.prog (oCall 20 [x19]) w68 fun x146 w69 =>
 (True) ∧ (pL Try.prog (oConv 29 9 x146) w69 fun x147 =>
 pN Try.prog (oCall 20 [x23]) w69 fun x149 w70 =>
 ((Sem.run Try.prog (oConv 29 9 x146) w70 = .ok (.value x147) w70) ∧ True) ∧ (pL Try.prog (oConv 29 9 x149) w70 fun x150 =>
 pA Try.prog (oBin .lss 9 (.tmp 147) (.tmp 150) x147 x150) fun x151 =>
 Q x151 w70))))))))))
noncomputable def pithlaw07_RcencOrder.c : Code := match Try.f4.body with | some c => c | none => .skip
theorem pithlaw07_RcencOrder.eq (x0 : Value) (x1 : Value) (x2 : Value) (w : World) (Q : Value → World → Prop) : cw Try.prog pithlaw07_RcencOrder.H pithlaw07_RcencOrder.c (endQ Try.prog Try.f4.results.toList Q) (argsE [x0, x1, x2]) w = pithlaw07_RcencOrder.F x0 x1 x2 w Q := by kernel_rfl
theorem pithlaw07_RcencOrder.calls {x0 : Value} {x1 : Value} {x2 : Value} {w : World} {Q : Value → World → Prop} (h : pithlaw07_RcencOrder.F x0 x1 x2 w Q) : Calls Try.prog 4 #[x0, x1, x2] w (retP Q) :=
  calls_of_cw (H := pithlaw07_RcencOrder.H) (c := pithlaw07_RcencOrder.c) (args := [x0, x1, x2]) mixed Try.func4 (by kernel_rfl) (by kernel_rfl) (Nat.le_of_ble_eq_true (by kernel_rfl)) ((pithlaw07_RcencOrder.eq x0 x1 x2 w Q).mpr h)

/-! pithlaw07_RcencTurns: pith/pithlaw07.RcencTurns; temporaries: 0:row 1:wrong 2:n 3:row 4:wrong 5:n 7:e 8:s 9:want 10:_ 11:b 12:i 13:bytes 14:i 15:p 16:f -/
def pithlaw07_RcencTurns.H : Hints := { cut := fun | 13 => some ([], 4503599090505792) | _ => none, loop := fun | 6 => ([27], 9007199120529472) | 20 => ([14], 1267648182376590172238353907776) | _ => ([], 0), order := fun | 12 => [(0, 0), (1, 1), (2, 3), (3, 7), (4, 15), (5, 31), (6, 63), (7, 127), (8, 255), (9, 511)] | _ => [] }
def pithlaw07_RcencTurns.F (x0 : Value) (x1 : Value) (x2 : Value) (w : World) (Q : Value → World → Prop) : Prop :=
 pN Try.prog (oCall 22 []) w fun x18 w1 =>
 pN Try.prog (oExt x18 0) w1 fun x19 w2 =>
 pN Try.prog (oExt x18 1) w2 fun x20 w3 =>
 pN Try.prog (oBin .eql 24 (.tmp 21) (.const (.pointer none)) x19 (.pointer none)) w3 fun x22 w4 =>
 pIf x22
 (Q (.bool false) w4)
 (pN Try.prog (oCall 25 [(.int .i64 1024), (.int .i64 1)]) w4 fun x23 w5 =>
 pN Try.prog (oBuild 43 [(0, x23), (1, (.int .i64 1024)), (2, (.int .i64 1024)), (3, (.int .i64 1024))]) w5 fun x24 w6 =>
 pN Try.prog (oAlloc 43) w6 fun x9 w7 =>
 pN Try.prog (oStore 43 x9 x24) w7 fun _ w8 =>
 pN Try.prog (oBi .len #[33] 3 [false] [x0]) w8 fun x26 w9 =>
 ∃ (L6 : Value → World → Prop) (m6 : Value → World → Nat),
 L6 (.int .i64 0) w9 ∧
 ∀ (_k6 : Env) (v27l6 : Value) (w10 : World), L6 v27l6 w10 →
 pN Try.prog (oBin .lss 3 (.tmp 27) (.tmp 26) v27l6 x26) w10 fun x28 w11 =>
 pIf x28
 (∃ I13 : World → Prop,
 (pN Try.prog (oIdx 33 x0 v27l6) w11 fun x29 w12 =>
 pN Try.prog (oLoad 38 x29) w12 fun x30 w13 =>
 pN Try.prog (oAlloc 38) w13 fun x11 w14 =>
 pN Try.prog (oStore 38 x11 x30) w14 fun _ w15 =>
 pN Try.prog (oFld 38 x11 0) w15 fun x31 w16 =>
 pN Try.prog (oLoad 3 x31) w16 fun x32 w17 =>
 pN Try.prog (oCall 24 [x32]) w17 fun x33 w18 =>
 pN Try.prog (oFld 38 x11 1) w18 fun x37 w19 =>
 pN Try.prog (oLoad 4 x37) w19 fun x38 w20 =>
 pN Try.prog (oCall 23 [x19, x20, x33, x38]) w20 fun x39 w21 =>
 pN Try.prog (oUn .not x39) w21 fun x40 w22 =>
 pIf x40
 (Q (.bool false) w22)
 (pN Try.prog (oBin .lss 3 (.tmp 41) (.const (.int .i64 4)) x33 (.int .i64 4)) w22 fun x42 w23 =>
 pIf x42
 (pDr w23 fun w24 =>
 pA Try.prog (oIdx 43 x9 x33) fun x45 =>
 pL Try.prog (oLoad 3 x45) w24 fun x46 =>
 pA Try.prog (oFld 38 x11 1) fun x47 =>
 pL Try.prog (oLoad 4 x47) w24 fun x48 =>
 pN Try.prog (oCall 26 [x48]) w24 fun x49 w25 =>
 ((Sem.run Try.prog (oLoad 3 x45) w25 = .ok (.value x46) w25) ∧ True) ∧ (pN Try.prog (oCall 25 [x46, x49]) w25 fun x50 w26 =>
 (True) ∧ (pA Try.prog (oIdx 43 x9 x33) fun x51 =>
 pN Try.prog (oStore 3 x51 x50) w26 fun _ w27 =>
 (True) ∧ (I13 w27))))
 (I13 w23))) ∧
 ∀ (_j13 : Env) (w28 : World), I13 w28 →
 pN Try.prog (oBin .add 3 (.tmp 27) (.const (.int .i64 1)) v27l6 (.int .i64 1)) w28 fun x52 w29 =>
 (L6 x52 w29 ∧ m6 x52 w29 < m6 v27l6 w10))
 (pN Try.prog (oCall 20 [x19]) w11 fun x54 w30 =>
 pN Try.prog (oConv 29 9 x54) w30 fun x55 w31 =>
 pN Try.prog (oBin .lss 3 (.tmp 56) (.const (.int .i64 0)) x1 (.int .i64 0)) w31 fun x57 w32 =>
 pGd (gB x57 false) (pN Try.prog (oMv x1) w32) w32 fun x59 w33 =>
 pGd (gB x57 false) (pN Try.prog (oBin .gtr 3 (.tmp 59) (.const (.int .i64 3)) x59 (.int .i64 3)) w33) w33 fun x60 w34 =>
 pN Try.prog (oPick x57 (.bool true) x60) w34 fun x61 w35 =>
 pGd (gB x61 true) (pN Try.prog (oMv x19) w35) w35 fun x63 w36 =>
 pGd (gB x61 true) (pN Try.prog (oMv x20) w36) w36 fun x64 w37 =>
 pGd (gB x61 true) (pN Try.prog (oMv x1) w37) w37 fun x65 w38 =>
 pGd (gB x61 true) (pN Try.prog (oCall 27 [x63, x64, x65, (.int .i64 1)]) w38) w38 fun x66 w39 =>
 pGd (gB x61 true) (pN Try.prog (oBin .neq 3 (.tmp 66) (.const (.int .i64 7)) x66 (.int .i64 7)) w39) w39 fun x67 w40 =>
 pN Try.prog (oPick x61 x67 (.bool false)) w40 fun x68 w41 =>
 pIf x68
 (Q (.bool false) w41)
 (pN Try.prog (oBin .lss 3 (.tmp 69) (.const (.int .i64 0)) x2 (.int .i64 0)) w41 fun x70 w42 =>
 pGd (gB x70 false) (pN Try.prog (oMv x2) w42) w42 fun x72 w43 =>
 pGd (gB x70 false) (pN Try.prog (oBin .gtr 3 (.tmp 72) (.const (.int .i64 32)) x72 (.int .i64 32)) w43) w43 fun x73 w44 =>
 pN Try.prog (oPick x70 (.bool true) x73) w44 fun x74 w45 =>
 pGd (gB x74 true) (pN Try.prog (oMv x19) w45) w45 fun x76 w46 =>
 pGd (gB x74 true) (pN Try.prog (oMv x2) w46) w46 fun x77 w47 =>
 pGd (gB x74 true) (pN Try.prog (oCall 19 [x76, (.int .u32 5), x77]) w47) w47 fun x78 w48 =>
 pGd (gB x74 true) (pN Try.prog (oBin .neq 3 (.tmp 78) (.const (.int .i64 7)) x78 (.int .i64 7)) w48) w48 fun x79 w49 =>
 pN Try.prog (oPick x74 x79 (.bool false)) w49 fun x80 w50 =>
 pIf x80
 (Q (.bool false) w50)
 (∃ (L20 : Value → World → Prop) (m20 : Value → World → Nat),
 L20 (.int .i64 0) w50 ∧
 ∀ (_k20 : Env) (i14l20 : Value) (w51 : World), L20 i14l20 w51 →
 pN Try.prog (oBin .lss 3 (.tmp 81) (.const (.int .i64 4)) i14l20 (.int .i64 4)) w51 fun x82 w52 =>
 pIf x82
 (pN Try.prog (oCall 28 [x20, i14l20]) w52 fun x88 w53 =>
 pN Try.prog (oExt x88 0) w53 fun x89 w54 =>
 pN Try.prog (oExt x88 1) w54 fun x90 w55 =>
 pN Try.prog (oBin .neq 27 (.tmp 91) (.const (.int .i64 0)) x90 (.int .i64 0)) w55 fun x92 w56 =>
 pGd (gB x92 false) (pN Try.prog (oMv x89) w56) w56 fun x94 w57 =>
 pGd (gB x92 false) (pN Try.prog (oMv i14l20) w57) w57 fun x95 w58 =>
 pGd (gB x92 false) (pN Try.prog (oIdx 43 x9 x95) w58) w58 fun x96 w59 =>
 pGd (gB x92 false) (pN Try.prog (oLoad 3 x96) w59) w59 fun x97 w60 =>
 pGd (gB x92 false) (pN Try.prog (oBin .neq 3 (.tmp 94) (.tmp 97) x94 x97) w60) w60 fun x98 w61 =>
 pN Try.prog (oPick x92 (.bool true) x98) w61 fun x99 w62 =>
 pIf x99
 (Q (.bool false) w62)
 (pN Try.prog (oBin .add 3 (.tmp 83) (.const (.int .i64 1)) i14l20 (.int .i64 1)) w62 fun x84 w63 =>
 (L20 x84 w63 ∧ m20 x84 w63 < m20 i14l20 w51)))
 (pN Try.prog (oCall 20 [x19]) w52 fun x101 w64 =>
 pN Try.prog (oConv 29 9 x101) w64 fun x102 w65 =>
 pN Try.prog (oBin .eql 9 (.tmp 102) (.tmp 103) x102 x55) w65 fun x104 w66 =>
 Q x104 w66)))))
noncomputable def pithlaw07_RcencTurns.c : Code := match Try.f5.body with | some c => c | none => .skip
theorem pithlaw07_RcencTurns.eq (x0 : Value) (x1 : Value) (x2 : Value) (w : World) (Q : Value → World → Prop) : cw Try.prog pithlaw07_RcencTurns.H pithlaw07_RcencTurns.c (endQ Try.prog Try.f5.results.toList Q) (argsE [x0, x1, x2]) w = pithlaw07_RcencTurns.F x0 x1 x2 w Q := by kernel_rfl
theorem pithlaw07_RcencTurns.calls {x0 : Value} {x1 : Value} {x2 : Value} {w : World} {Q : Value → World → Prop} (h : pithlaw07_RcencTurns.F x0 x1 x2 w Q) : Calls Try.prog 5 #[x0, x1, x2] w (retP Q) :=
  calls_of_cw (H := pithlaw07_RcencTurns.H) (c := pithlaw07_RcencTurns.c) (args := [x0, x1, x2]) mixed Try.func5 (by kernel_rfl) (by kernel_rfl) (Nat.le_of_ble_eq_true (by kernel_rfl)) ((pithlaw07_RcencTurns.eq x0 x1 x2 w Q).mpr h)

/-! pithlaw07_RcencPlays: pith/pithlaw07.RcencPlays; temporaries: 0:first 1:second 2:script 3:first 4:second 5:script 7:s 8:ok 9:l 10:lists 11:_ 12:o 13:k 14:p 15:which 16:b 17:c 18:n 19:_ 20:p -/
def pithlaw07_RcencPlays.H : Hints := { cut := fun | 12 => some ([13], 141863388262178816) | 33 => some ([153], 79925870791533753339264014289171727637433810944) | 36 => some ([], 736596825214775070774657155689006641906590001659904) | 40 => some ([9, 10], 766247770432944429179173513575154591809351968906278464) | _ => none, loop := fun | 7 => ([9, 10, 42], 1532495540865888858358347027150309183618734724137612864) | 42 => ([182], 51422011286305525353787353521529094679473761326092881996283968) | _ => ([], 0), order := fun | 16 => [(0, 0), (1, 1), (2, 3), (3, 7), (4, 15), (5, 31), (6, 63), (7, 127), (8, 255), (9, 511), (11, 1023), (12, 3071), (13, 7167), (14, 15359), (15, 31743), (16, 64511), (17, 130047), (18, 261119), (19, 523263), (20, 1047551), (10, 2096127), (21, 2097151), (22, 4194303)] | 19 => [(0, 0), (1, 1), (2, 3), (3, 7), (4, 15), (5, 31), (7, 63), (8, 191), (9, 447), (10, 959), (11, 1983), (12, 4031), (6, 8127), (13, 8191), (14, 16383)] | 22 => [(0, 0), (1, 1), (3, 3), (4, 11), (2, 27), (5, 31), (6, 63)] | 27 => [(0, 0), (1, 1), (2, 3), (3, 7), (4, 15), (5, 31), (6, 63), (7, 127), (8, 255), (9, 511), (10, 1023), (11, 2047), (12, 4095), (13, 8191)] | 44 => [(0, 0), (1, 1), (4, 3), (5, 19), (2, 51), (3, 55), (6, 63), (7, 127), (8, 255), (9, 511), (10, 1023), (11, 2047), (13, 4095), (14, 12287), (12, 28671), (15, 32767), (16, 65535), (17, 131071)] | _ => [] }
def pithlaw07_RcencPlays.F (x0 : Value) (x1 : Value) (x2 : Value) (w : World) (Q : Value → World → Prop) : Prop :=
 pN Try.prog (oCall 29 [x0, x1]) w fun x24 w1 =>
 pN Try.prog (oExt x24 0) w1 fun x25 w2 =>
 pN Try.prog (oExt x24 1) w2 fun x26 w3 =>
 pN Try.prog (oAlloc 54) w3 fun x7 w4 =>
 pN Try.prog (oStore 54 x7 x25) w4 fun _ w5 =>
 pN Try.prog (oCall 18 []) w5 fun x27 w6 =>
 pN Try.prog (oCall 30 []) w6 fun x28 w7 =>
 pN Try.prog (oBuild 60 [(0, x27), (1, x28)]) w7 fun x29 w8 =>
 pN Try.prog (oBs 61 1 [(0, x29)]) w8 fun x30 w9 =>
 pN Try.prog (oUn .not x26) w9 fun x32 w10 =>
 pGd (gB x32 false) (pN Try.prog (oMv x30) w10) w10 fun x34 w11 =>
 pGd (gB x32 false) (pN Try.prog (oIdx 61 x34 (.int .i64 0)) w11) w11 fun x35 w12 =>
 pGd (gB x32 false) (pN Try.prog (oFld 60 x35 0) w12) w12 fun x36 w13 =>
 pGd (gB x32 false) (pN Try.prog (oLoad 24 x36) w13) w13 fun x37 w14 =>
 pGd (gB x32 false) (pN Try.prog (oBin .eql 24 (.tmp 37) (.const (.pointer none)) x37 (.pointer none)) w14) w14 fun x38 w15 =>
 pN Try.prog (oPick x32 (.bool true) x38) w15 fun x39 w16 =>
 pIf x39
 (Q (.bool false) w16)
 (pN Try.prog (oBi .len #[49] 3 [false] [x2]) w16 fun x41 w17 =>
 ∃ (L7 : Value → Value → Value → World → Prop) (m7 : Value → Value → Value → World → Nat),
 L7 x30 (.slice none 0 0) (.int .i64 0) w17 ∧
 ∀ (_k7 : Env) (l9l7 : Value) (lists10l7 : Value) (v42l7 : Value) (w18 : World), L7 l9l7 lists10l7 v42l7 w18 →
 pN Try.prog (oBin .lss 3 (.tmp 42) (.tmp 41) v42l7 x41) w18 fun x43 w19 =>
 pIf x43
 (∃ I40 : Value → Value → World → Prop,
 (pN Try.prog (oIdx 49 x2 v42l7) w19 fun x44 w20 =>
 pN Try.prog (oLoad 64 x44) w20 fun x45 w21 =>
 pN Try.prog (oAlloc 64) w21 fun x12 w22 =>
 pN Try.prog (oStore 64 x12 x45) w22 fun _ w23 =>
 pN Try.prog (oFld 64 x12 1) w23 fun x46 w24 =>
 pN Try.prog (oLoad 3 x46) w24 fun x47 w25 =>
 pN Try.prog (oBi .len #[61] 3 [false] [l9l7]) w25 fun x49 w26 =>
 pN Try.prog (oBin .rem 3 (.tmp 47) (.tmp 49) x47 x49) w26 fun x50 w27 =>
 ∃ I12 : Value → World → Prop,
 (pN Try.prog (oBin .lss 3 (.tmp 51) (.const (.int .i64 0)) x50 (.int .i64 0)) w27 fun x52 w28 =>
 pIf x52
 (pN Try.prog (oBi .len #[61] 3 [false] [l9l7]) w28 fun x55 w29 =>
 pN Try.prog (oBin .add 3 (.tmp 53) (.tmp 55) x50 x55) w29 fun x56 w30 =>
 I12 x56 w30)
 (I12 x50 w28)) ∧
 ∀ (_j12 : Env) (k13c12 : Value) (w31 : World), I12 k13c12 w31 →
 pN Try.prog (oIdx 61 l9l7 k13c12) w31 fun x59 w32 =>
 pN Try.prog (oLoad 60 x59) w32 fun x60 w33 =>
 pN Try.prog (oAlloc 60) w33 fun x14 w34 =>
 pN Try.prog (oStore 60 x14 x60) w34 fun _ w35 =>
 pN Try.prog (oFld 64 x12 0) w35 fun x61 w36 =>
 pN Try.prog (oLoad 3 x61) w36 fun x62 w37 =>
 pN Try.prog (oBin .eql 3 (.tmp 62) (.const (.int .i64 1)) x62 (.int .i64 1)) w37 fun x64 w38 =>
 pIf x64
 (pN Try.prog (oFld 64 x12 2) w38 fun x65 w39 =>
 pN Try.prog (oLoad 3 x65) w39 fun x66 w40 =>
 pN Try.prog (oBin .and 3 (.tmp 66) (.const (.int .i64 1)) x66 (.int .i64 1)) w40 fun x67 w41 =>
 pDr w41 fun w42 =>
 pA Try.prog (oFld 60 x14 0) fun x68 =>
 pL Try.prog (oLoad 24 x68) w42 fun x69 =>
 pA Try.prog (oFld 54 x7 0) fun x71 =>
 pA Try.prog (oIdx 50 x71 x67) fun x72 =>
 pL Try.prog (oLoad 34 x72) w42 fun x73 =>
 pA Try.prog (oFld 64 x12 3) fun x74 =>
 pL Try.prog (oLoad 3 x74) w42 fun x75 =>
 pA Try.prog (oFld 64 x12 4) fun x76 =>
 pL Try.prog (oLoad 3 x76) w42 fun x77 =>
 pA Try.prog (oFld 60 x14 1) fun x79 =>
 pL Try.prog (oLoad 57 x79) w42 fun x80 =>
 pA Try.prog (oFld 54 x7 1) fun x82 =>
 pA Try.prog (oIdx 52 x82 x67) fun x83 =>
 pL Try.prog (oLoad 51 x83) w42 fun x84 =>
 pA Try.prog (oFld 64 x12 3) fun x85 =>
 pL Try.prog (oLoad 3 x85) w42 fun x86 =>
 pA Try.prog (oFld 64 x12 4) fun x87 =>
 pL Try.prog (oLoad 3 x87) w42 fun x88 =>
 pN Try.prog (oCall 27 [x69, x73, x75, x77]) w42 fun x78 w43 =>
 ((Sem.run Try.prog (oLoad 3 x87) w43 = .ok (.value x88) w43) ∧ (Sem.run Try.prog (oLoad 3 x85) w43 = .ok (.value x86) w43) ∧ (Sem.run Try.prog (oLoad 51 x83) w43 = .ok (.value x84) w43) ∧ (Sem.run Try.prog (oLoad 57 x79) w43 = .ok (.value x80) w43) ∧ True) ∧ (pN Try.prog (oCall 31 [x80, x84, x86, x88]) w43 fun x89 w44 =>
 (True) ∧ (pA Try.prog (oBin .neq 3 (.tmp 78) (.tmp 89) x78 x89) fun x90 =>
 pIf x90
 (Q (.bool false) w44)
 (I40 l9l7 lists10l7 w44))))
 (pN Try.prog (oBin .eql 3 (.tmp 62) (.const (.int .i64 2)) x62 (.int .i64 2)) w38 fun x92 w45 =>
 pIf x92
 (pDr w45 fun w46 =>
 pA Try.prog (oFld 60 x14 0) fun x93 =>
 pL Try.prog (oLoad 24 x93) w46 fun x94 =>
 pA Try.prog (oFld 64 x12 5) fun x95 =>
 pL Try.prog (oLoad 26 x95) w46 fun x96 =>
 pA Try.prog (oFld 64 x12 6) fun x97 =>
 pL Try.prog (oLoad 3 x97) w46 fun x98 =>
 pA Try.prog (oFld 60 x14 1) fun x100 =>
 pL Try.prog (oLoad 57 x100) w46 fun x101 =>
 pA Try.prog (oFld 64 x12 5) fun x102 =>
 pL Try.prog (oLoad 26 x102) w46 fun x103 =>
 pA Try.prog (oFld 64 x12 6) fun x104 =>
 pL Try.prog (oLoad 3 x104) w46 fun x105 =>
 pN Try.prog (oCall 19 [x94, x96, x98]) w46 fun x99 w47 =>
 ((Sem.run Try.prog (oLoad 3 x104) w47 = .ok (.value x105) w47) ∧ (Sem.run Try.prog (oLoad 26 x102) w47 = .ok (.value x103) w47) ∧ (Sem.run Try.prog (oLoad 57 x100) w47 = .ok (.value x101) w47) ∧ True) ∧ (pN Try.prog (oCall 32 [x101, x103, x105]) w47 fun x106 w48 =>
 (True) ∧ (pA Try.prog (oBin .neq 3 (.tmp 99) (.tmp 106) x99 x106) fun x107 =>
 pIf x107
 (Q (.bool false) w48)
 (I40 l9l7 lists10l7 w48))))
 (pN Try.prog (oBin .eql 3 (.tmp 62) (.const (.int .i64 3)) x62 (.int .i64 3)) w45 fun x109 w49 =>
 pIf x109
 (pDr w49 fun w50 =>
 pA Try.prog (oFld 60 x14 0) fun x110 =>
 pL Try.prog (oLoad 24 x110) w50 fun x111 =>
 pA Try.prog (oFld 60 x14 1) fun x113 =>
 pL Try.prog (oLoad 57 x113) w50 fun x114 =>
 pN Try.prog (oCall 21 [x111]) w50 fun x112 w51 =>
 ((Sem.run Try.prog (oLoad 57 x113) w51 = .ok (.value x114) w51) ∧ True) ∧ (pN Try.prog (oCall 33 [x114]) w51 fun x115 w52 =>
 (True) ∧ (pA Try.prog (oBin .neq 3 (.tmp 112) (.tmp 115) x112 x115) fun x116 =>
 pIf x116
 (Q (.bool false) w52)
 (I40 l9l7 lists10l7 w52))))
 (pN Try.prog (oBin .eql 3 (.tmp 62) (.const (.int .i64 4)) x62 (.int .i64 4)) w49 fun x118 w53 =>
 pIf x118
 (pN Try.prog (oFld 60 x14 0) w53 fun x119 w54 =>
 pN Try.prog (oLoad 24 x119) w54 fun x120 w55 =>
 pN Try.prog (oCall 20 [x120]) w55 fun x121 w56 =>
 pN Try.prog (oFld 60 x14 0) w56 fun x122 w57 =>
 pN Try.prog (oLoad 24 x122) w57 fun x123 w58 =>
 pN Try.prog (oCall 20 [x123]) w58 fun x124 w59 =>
 pDr w59 fun w60 =>
 pL Try.prog (oConv 29 9 x121) w60 fun x126 =>
 pA Try.prog (oFld 60 x14 1) fun x127 =>
 pL Try.prog (oLoad 57 x127) w60 fun x128 =>
 pN Try.prog (oCall 34 [x128]) w60 fun x129 w61 =>
 ((Sem.run Try.prog (oConv 29 9 x121) w61 = .ok (.value x126) w61) ∧ True) ∧ (pL Try.prog (oConv 29 9 x129) w61 fun x130 =>
 pA Try.prog (oBin .neq 9 (.tmp 126) (.tmp 130) x126 x130) fun x131 =>
 gA (gB x131 false) (pA Try.prog (oMv x124)) fun x133 =>
 gA (gB x131 false) (pL Try.prog (oConv 29 9 x133) w61) fun x134 =>
 gA (gB x131 false) (pA Try.prog (oMv x121)) fun x135 =>
 gA (gB x131 false) (pL Try.prog (oConv 29 9 x135) w61) fun x136 =>
 gA (gB x131 false) (pA Try.prog (oBin .neq 9 (.tmp 134) (.tmp 136) x134 x136)) fun x137 =>
 pA Try.prog (oPick x131 (.bool true) x137) fun x138 =>
 pIf x138
 (Q (.bool false) w61)
 (pN Try.prog (oBi .len #[62] 3 [false] [lists10l7]) w61 fun x142 w62 =>
 pN Try.prog (oCall 35 [x121, x142]) w62 fun x143 w63 =>
 pN Try.prog (oBs 62 1 [(0, x143)]) w63 fun x144 w64 =>
 pN Try.prog (oBi .append #[62, 62] 62 [false, false] [lists10l7, x144]) w64 fun x145 w65 =>
 pN Try.prog (oBi .len #[62] 3 [false] [x145]) w65 fun x149 w66 =>
 pN Try.prog (oCall 35 [x124, x149]) w66 fun x150 w67 =>
 pN Try.prog (oBs 62 1 [(0, x150)]) w67 fun x151 w68 =>
 pN Try.prog (oBi .append #[62, 62] 62 [false, false] [x145, x151]) w68 fun x152 w69 =>
 I40 l9l7 x152 w69)))
 (∃ I33 : Value → World → Prop,
 (pN Try.prog (oBin .eql 3 (.tmp 62) (.const (.int .i64 5)) x62 (.int .i64 5)) w53 fun x154 w70 =>
 pIf x154
 (I33 x154 w70)
 (pN Try.prog (oBin .eql 3 (.tmp 62) (.const (.int .i64 6)) x62 (.int .i64 6)) w70 fun x155 w71 =>
 I33 x155 w71)) ∧
 ∀ (_j33 : Env) (v153c33 : Value) (w72 : World), I33 v153c33 w72 →
 pIf v153c33
 (pDr w72 fun w73 =>
 pA Try.prog (oFld 60 x14 0) fun x156 =>
 pL Try.prog (oLoad 24 x156) w73 fun x157 =>
 pA Try.prog (oFld 60 x14 1) fun x159 =>
 pL Try.prog (oLoad 57 x159) w73 fun x160 =>
 (pN Try.prog (oCall 36 [x157]) w73 fun x158 w74 =>
 ((Sem.run Try.prog (oLoad 57 x159) w74 = .ok (.value x160) w74) ∧ True) ∧ ((pN Try.prog (oCall 37 [x160]) w74 fun x161 w75 =>
 (True) ∧ ((pN Try.prog (oBuild 60 [(0, x158), (1, x161)]) w75 fun x162 w76 =>
 (True) ∧ (pN Try.prog (oAlloc 60) w76 fun x18 w77 =>
 (True) ∧ (pN Try.prog (oStore 60 x18 x162) w77 fun _ w78 =>
 (True) ∧ (∃ I36 : World → Prop,
 (pN Try.prog (oFld 64 x12 0) w78 fun x163 w79 =>
 pN Try.prog (oLoad 3 x163) w79 fun x164 w80 =>
 pN Try.prog (oBin .eql 3 (.tmp 164) (.const (.int .i64 6)) x164 (.int .i64 6)) w80 fun x165 w81 =>
 pIf x165
 (pN Try.prog (oCall 18 []) w81 fun x166 w82 =>
 pN Try.prog (oCall 30 []) w82 fun x167 w83 =>
 pN Try.prog (oBuild 60 [(0, x166), (1, x167)]) w83 fun x168 w84 =>
 pN Try.prog (oStore 60 x18 x168) w84 fun _ w85 =>
 I36 w85)
 (I36 w81)) ∧
 ∀ (_j36 : Env) (w86 : World), I36 w86 →
 pN Try.prog (oFld 60 x18 0) w86 fun x169 w87 =>
 pN Try.prog (oLoad 24 x169) w87 fun x170 w88 =>
 pN Try.prog (oBin .eql 24 (.tmp 170) (.const (.pointer none)) x170 (.pointer none)) w88 fun x171 w89 =>
 pIf x171
 (Q (.bool false) w89)
 (pN Try.prog (oBi .len #[61] 3 [false] [l9l7]) w89 fun x173 w90 =>
 pN Try.prog (oBin .lss 3 (.tmp 173) (.const (.int .i64 5)) x173 (.int .i64 5)) w90 fun x174 w91 =>
 pIf x174
 (pN Try.prog (oLoad 60 x18) w91 fun x176 w92 =>
 pN Try.prog (oBs 61 1 [(0, x176)]) w92 fun x177 w93 =>
 pN Try.prog (oBi .append #[61, 61] 61 [false, false] [l9l7, x177]) w93 fun x178 w94 =>
 I40 x178 lists10l7 w94)
 (I40 l9l7 lists10l7 w91)))))) ∧ (pN Try.prog (oAlloc 60) w75 fun x18 w95 =>
 (True) ∧ (pN Try.prog (oBuild 60 [(0, x158), (1, x161)]) w95 fun x162 w96 =>
 (True) ∧ (pN Try.prog (oStore 60 x18 x162) w96 fun _ w97 =>
 (True) ∧ (∃ I36 : World → Prop,
 (pN Try.prog (oFld 64 x12 0) w97 fun x163 w98 =>
 pN Try.prog (oLoad 3 x163) w98 fun x164 w99 =>
 pN Try.prog (oBin .eql 3 (.tmp 164) (.const (.int .i64 6)) x164 (.int .i64 6)) w99 fun x165 w100 =>
 pIf x165
 (pN Try.prog (oCall 18 []) w100 fun x166 w101 =>
 pN Try.prog (oCall 30 []) w101 fun x167 w102 =>
 pN Try.prog (oBuild 60 [(0, x166), (1, x167)]) w102 fun x168 w103 =>
 pN Try.prog (oStore 60 x18 x168) w103 fun _ w104 =>
 I36 w104)
 (I36 w100)) ∧
 ∀ (_j36 : Env) (w105 : World), I36 w105 →
 pN Try.prog (oFld 60 x18 0) w105 fun x169 w106 =>
 pN Try.prog (oLoad 24 x169) w106 fun x170 w107 =>
 pN Try.prog (oBin .eql 24 (.tmp 170) (.const (.pointer none)) x170 (.pointer none)) w107 fun x171 w108 =>
 pIf x171
 (Q (.bool false) w108)
 (pN Try.prog (oBi .len #[61] 3 [false] [l9l7]) w108 fun x173 w109 =>
 pN Try.prog (oBin .lss 3 (.tmp 173) (.const (.int .i64 5)) x173 (.int .i64 5)) w109 fun x174 w110 =>
 pIf x174
 (pN Try.prog (oLoad 60 x18) w110 fun x176 w111 =>
 pN Try.prog (oBs 61 1 [(0, x176)]) w111 fun x177 w112 =>
 pN Try.prog (oBi .append #[61, 61] 61 [false, false] [l9l7, x177]) w112 fun x178 w113 =>
 I40 x178 lists10l7 w113)
 (I40 l9l7 lists10l7 w110)))))))) ∧ (pN Try.prog (oAlloc 60) w74 fun x18 w114 =>
 ((Sem.run Try.prog (oLoad 57 x159) w114 = .ok (.value x160) w114) ∧ True) ∧ (pN Try.prog (oCall 37 [x160]) w114 fun x161 w115 =>
 (True) ∧ (pN Try.prog (oBuild 60 [(0, x158), (1, x161)]) w115 fun x162 w116 =>
 (True) ∧ (pN Try.prog (oStore 60 x18 x162) w116 fun _ w117 =>
 (True) ∧ (∃ I36 : World → Prop,
 (pN Try.prog (oFld 64 x12 0) w117 fun x163 w118 =>
 pN Try.prog (oLoad 3 x163) w118 fun x164 w119 =>
 pN Try.prog (oBin .eql 3 (.tmp 164) (.const (.int .i64 6)) x164 (.int .i64 6)) w119 fun x165 w120 =>
 pIf x165
 (pN Try.prog (oCall 18 []) w120 fun x166 w121 =>
 pN Try.prog (oCall 30 []) w121 fun x167 w122 =>
 pN Try.prog (oBuild 60 [(0, x166), (1, x167)]) w122 fun x168 w123 =>
 pN Try.prog (oStore 60 x18 x168) w123 fun _ w124 =>
 I36 w124)
 (I36 w120)) ∧
 ∀ (_j36 : Env) (w125 : World), I36 w125 →
 pN Try.prog (oFld 60 x18 0) w125 fun x169 w126 =>
 pN Try.prog (oLoad 24 x169) w126 fun x170 w127 =>
 pN Try.prog (oBin .eql 24 (.tmp 170) (.const (.pointer none)) x170 (.pointer none)) w127 fun x171 w128 =>
 pIf x171
 (Q (.bool false) w128)
 (pN Try.prog (oBi .len #[61] 3 [false] [l9l7]) w128 fun x173 w129 =>
 pN Try.prog (oBin .lss 3 (.tmp 173) (.const (.int .i64 5)) x173 (.int .i64 5)) w129 fun x174 w130 =>
 pIf x174
 (pN Try.prog (oLoad 60 x18) w130 fun x176 w131 =>
 pN Try.prog (oBs 61 1 [(0, x176)]) w131 fun x177 w132 =>
 pN Try.prog (oBi .append #[61, 61] 61 [false, false] [l9l7, x177]) w132 fun x178 w133 =>
 I40 x178 lists10l7 w133)
 (I40 l9l7 lists10l7 w130))))))))) ∧ (pN Try.prog (oAlloc 60) w73 fun x18 w134 =>
 ((Sem.run Try.prog (oLoad 57 x159) w134 = .ok (.value x160) w134) ∧ (Sem.run Try.prog (oLoad 24 x156) w134 = .ok (.value x157) w134) ∧ True) ∧ (pN Try.prog (oCall 36 [x157]) w134 fun x158 w135 =>
 ((Sem.run Try.prog (oLoad 57 x159) w135 = .ok (.value x160) w135) ∧ True) ∧ (pN Try.prog (oCall 37 [x160]) w135 fun x161 w136 =>
 (True) ∧ (pN Try.prog (oBuild 60 [(0, x158), (1, x161)]) w136 fun x162 w137 =>
 (True) ∧ (pN Try.prog (oStore 60 x18 x162) w137 fun _ w138 =>
 (True) ∧ (∃ I36 : World → Prop,
 (pN Try.prog (oFld 64 x12 0) w138 fun x163 w139 =>
 pN Try.prog (oLoad 3 x163) w139 fun x164 w140 =>
 pN Try.prog (oBin .eql 3 (.tmp 164) (.const (.int .i64 6)) x164 (.int .i64 6)) w140 fun x165 w141 =>
 pIf x165
 (pN Try.prog (oCall 18 []) w141 fun x166 w142 =>
 pN Try.prog (oCall 30 []) w142 fun x167 w143 =>
 pN Try.prog (oBuild 60 [(0, x166), (1, x167)]) w143 fun x168 w144 =>
 pN Try.prog (oStore 60 x18 x168) w144 fun _ w145 =>
 I36 w145)
 (I36 w141)) ∧
 ∀ (_j36 : Env) (w146 : World), I36 w146 →
 pN Try.prog (oFld 60 x18 0) w146 fun x169 w147 =>
 pN Try.prog (oLoad 24 x169) w147 fun x170 w148 =>
 pN Try.prog (oBin .eql 24 (.tmp 170) (.const (.pointer none)) x170 (.pointer none)) w148 fun x171 w149 =>
 pIf x171
 (Q (.bool false) w149)
 (pN Try.prog (oBi .len #[61] 3 [false] [l9l7]) w149 fun x173 w150 =>
 pN Try.prog (oBin .lss 3 (.tmp 173) (.const (.int .i64 5)) x173 (.int .i64 5)) w150 fun x174 w151 =>
 pIf x174
 (pN Try.prog (oLoad 60 x18) w151 fun x176 w152 =>
 pN Try.prog (oBs 61 1 [(0, x176)]) w152 fun x177 w153 =>
 pN Try.prog (oBi .append #[61, 61] 61 [false, false] [l9l7, x177]) w153 fun x178 w154 =>
 I40 x178 lists10l7 w154)
 (I40 l9l7 lists10l7 w151)))))))))
 (I40 l9l7 lists10l7 w72)))))) ∧
 ∀ (_j40 : Env) (l9c40 : Value) (lists10c40 : Value) (w155 : World), I40 l9c40 lists10c40 w155 →
 pN Try.prog (oBin .add 3 (.tmp 42) (.const (.int .i64 1)) v42l7 (.int .i64 1)) w155 fun x179 w156 =>
 (L7 l9c40 lists10c40 x179 w156 ∧ m7 l9c40 lists10c40 x179 w156 < m7 l9l7 lists10l7 v42l7 w18))
 (pN Try.prog (oBi .len #[61] 3 [false] [l9l7]) w19 fun x181 w157 =>
 ∃ (L42 : Value → World → Prop) (m42 : Value → World → Nat),
 L42 (.int .i64 0) w157 ∧
 ∀ (_k42 : Env) (v182l42 : Value) (w158 : World), L42 v182l42 w158 →
 pN Try.prog (oBin .lss 3 (.tmp 182) (.tmp 181) v182l42 x181) w158 fun x183 w159 =>
 pIf x183
 (pN Try.prog (oIdx 61 l9l7 v182l42) w159 fun x184 w160 =>
 pN Try.prog (oLoad 60 x184) w160 fun x185 w161 =>
 pN Try.prog (oAlloc 60) w161 fun x20 w162 =>
 pN Try.prog (oStore 60 x20 x185) w162 fun _ w163 =>
 pDr w163 fun w164 =>
 pA Try.prog (oFld 60 x20 0) fun x186 =>
 pL Try.prog (oLoad 24 x186) w164 fun x187 =>
 pA Try.prog (oFld 60 x20 1) fun x190 =>
 pL Try.prog (oLoad 57 x190) w164 fun x191 =>
 pN Try.prog (oCall 20 [x187]) w164 fun x188 w165 =>
 ((Sem.run Try.prog (oLoad 57 x190) w165 = .ok (.value x191) w165) ∧ True) ∧ (pL Try.prog (oConv 29 9 x188) w165 fun x189 =>
 pN Try.prog (oCall 34 [x191]) w165 fun x192 w166 =>
 ((Sem.run Try.prog (oConv 29 9 x188) w166 = .ok (.value x189) w166) ∧ True) ∧ (pL Try.prog (oConv 29 9 x192) w166 fun x193 =>
 pA Try.prog (oBin .neq 9 (.tmp 189) (.tmp 193) x189 x193) fun x194 =>
 gA (gB x194 false) (pA Try.prog (oFld 60 x20 0)) fun x196 =>
 gA (gB x194 false) (pL Try.prog (oLoad 24 x196) w166) fun x197 =>
 gA (gB x194 false) (pA Try.prog (oFld 60 x20 1)) fun x199 =>
 gA (gB x194 false) (pL Try.prog (oLoad 57 x199) w166) fun x200 =>
 pGd (gB x194 false) (pN Try.prog (oCall 21 [x197]) w166) w166 fun x198 w167 =>
 ((((gB x194 false) = true → Sem.run Try.prog (oLoad 57 x199) w167 = .ok (.value x200) w167)) ∧ True) ∧ (pGd (gB x194 false) (pN Try.prog (oCall 33 [x200]) w167) w167 fun x201 w168 =>
 (True) ∧ (gA (gB x194 false) (pA Try.prog (oBin .neq 3 (.tmp 198) (.tmp 201) x198 x201)) fun x202 =>
 pA Try.prog (oPick x194 (.bool true) x202) fun x203 =>
 pIf x203
 (Q (.bool false) w168)
 (pN Try.prog (oBin .add 3 (.tmp 182) (.const (.int .i64 1)) v182l42 (.int .i64 1)) w168 fun x204 w169 =>
 (L42 x204 w169 ∧ m42 x204 w169 < m42 v182l42 w158)))))))
 (pN Try.prog (oLoad 54 x7) w159 fun x205 w170 =>
 pN Try.prog (oCall 38 [x205]) w170 fun x206 w171 =>
 pGd (gB x206 true) (pN Try.prog (oMv lists10l7) w171) w171 fun x208 w172 =>
 pGd (gB x206 true) (pN Try.prog (oCall 39 [x208]) w172) w172 fun x209 w173 =>
 pN Try.prog (oPick x206 x209 (.bool false)) w173 fun x210 w174 =>
 Q x210 w174)))
noncomputable def pithlaw07_RcencPlays.c : Code := match Try.f6.body with | some c => c | none => .skip
theorem pithlaw07_RcencPlays.eq (x0 : Value) (x1 : Value) (x2 : Value) (w : World) (Q : Value → World → Prop) : cw Try.prog pithlaw07_RcencPlays.H pithlaw07_RcencPlays.c (endQ Try.prog Try.f6.results.toList Q) (argsE [x0, x1, x2]) w = pithlaw07_RcencPlays.F x0 x1 x2 w Q := by kernel_rfl
theorem pithlaw07_RcencPlays.calls {x0 : Value} {x1 : Value} {x2 : Value} {w : World} {Q : Value → World → Prop} (h : pithlaw07_RcencPlays.F x0 x1 x2 w Q) : Calls Try.prog 6 #[x0, x1, x2] w (retP Q) :=
  calls_of_cw (H := pithlaw07_RcencPlays.H) (c := pithlaw07_RcencPlays.c) (args := [x0, x1, x2]) mixed Try.func6 (by kernel_rfl) (by kernel_rfl) (Nat.le_of_ble_eq_true (by kernel_rfl)) ((pithlaw07_RcencPlays.eq x0 x1 x2 w Q).mpr h)

/-! pithlaw07_RcencAsked: pith/pithlaw07.RcencAsked; temporaries: 0:row 1:at 2:own 3:row 4:at 5:own 7:e 8:s 9:f 10:t 11:g 12:u 13:fork 14:set 15:k 16:b 17:i 18:_ 19:b 20:i -/
def pithlaw07_RcencAsked.H : Hints := { cut := fun | 8 => some ([1], 8998403161718786) | 16 => some ([13, 14], 2342736497361113079808) | 21 => some ([13, 14], 1298074214633704601289614868865088) | 25 => some ([13, 14], 662017849463190522637638281975586816) | _ => none, loop := fun | 11 => ([13, 14, 59], 2596148429267413237804495861440576) | 28 => ([127], 2854495215270736301647340207211686556882960448) | _ => ([], 0), order := fun | 34 => [(0, 0), (3, 1), (1, 9), (2, 11), (4, 15), (5, 31), (6, 63), (7, 127), (8, 255), (11, 511), (9, 2559), (10, 3071), (12, 4095), (13, 8191), (14, 16383), (15, 32767), (16, 65535), (17, 131071), (19, 262143), (18, 786431), (20, 1048575), (21, 2097151), (22, 4194303), (23, 8388607), (24, 16777215), (26, 33554431), (25, 100663295), (27, 134217727), (28, 268435455), (29, 536870911), (30, 1073741823), (31, 2147483647)] | _ => [] }
def pithlaw07_RcencAsked.F (x0 : Value) (x1 : Value) (x2 : Value) (w : World) (Q : Value → World → Prop) : Prop :=
 pN Try.prog (oCall 22 []) w fun x22 w1 =>
 pN Try.prog (oExt x22 0) w1 fun x23 w2 =>
 pN Try.prog (oExt x22 1) w2 fun x24 w3 =>
 pN Try.prog (oCall 22 []) w3 fun x26 w4 =>
 pN Try.prog (oExt x26 0) w4 fun x27 w5 =>
 pN Try.prog (oExt x26 1) w5 fun x28 w6 =>
 pN Try.prog (oCall 22 []) w6 fun x30 w7 =>
 pN Try.prog (oExt x30 0) w7 fun x31 w8 =>
 pN Try.prog (oExt x30 1) w8 fun x32 w9 =>
 pN Try.prog (oBin .eql 24 (.tmp 33) (.const (.pointer none)) x23 (.pointer none)) w9 fun x34 w10 =>
 pGd (gB x34 false) (pN Try.prog (oMv x27) w10) w10 fun x36 w11 =>
 pGd (gB x34 false) (pN Try.prog (oBin .eql 24 (.tmp 36) (.const (.pointer none)) x36 (.pointer none)) w11) w11 fun x37 w12 =>
 pN Try.prog (oPick x34 (.bool true) x37) w12 fun x38 w13 =>
 pGd (gB x38 false) (pN Try.prog (oMv x31) w13) w13 fun x40 w14 =>
 pGd (gB x38 false) (pN Try.prog (oBin .eql 24 (.tmp 40) (.const (.pointer none)) x40 (.pointer none)) w14) w14 fun x41 w15 =>
 pN Try.prog (oPick x38 (.bool true) x41) w15 fun x42 w16 =>
 pIf x42
 (Q (.bool false) w16)
 (∃ I8 : Value → World → Prop,
 (pN Try.prog (oBin .lss 3 (.tmp 43) (.const (.int .i64 0)) x1 (.int .i64 0)) w16 fun x44 w17 =>
 pGd (gB x44 false) (pN Try.prog (oMv x1) w17) w17 fun x46 w18 =>
 pGd (gB x44 false) (pN Try.prog (oMv x0) w18) w18 fun x47 w19 =>
 pGd (gB x44 false) (pN Try.prog (oBi .len #[33] 3 [false] [x47]) w19) w19 fun x48 w20 =>
 pGd (gB x44 false) (pN Try.prog (oBin .gtr 3 (.tmp 46) (.tmp 48) x46 x48) w20) w20 fun x49 w21 =>
 pN Try.prog (oPick x44 (.bool true) x49) w21 fun x50 w22 =>
 pIf x50
 (pN Try.prog (oBi .len #[33] 3 [false] [x0]) w22 fun x52 w23 =>
 I8 x52 w23)
 (I8 x1 w22)) ∧
 ∀ (_j8 : Env) (at1c8 : Value) (w24 : World), I8 at1c8 w24 →
 pN Try.prog (oCall 36 [x27]) w24 fun x54 w25 =>
 pN Try.prog (oCall 40 [x28]) w25 fun x56 w26 =>
 pN Try.prog (oBi .len #[33] 3 [false] [x0]) w26 fun x58 w27 =>
 ∃ (L11 : Value → Value → Value → World → Prop) (m11 : Value → Value → Value → World → Nat),
 L11 x54 x56 (.int .i64 0) w27 ∧
 ∀ (_k11 : Env) (fork13l11 : Value) (set14l11 : Value) (v59l11 : Value) (w28 : World), L11 fork13l11 set14l11 v59l11 w28 →
 pN Try.prog (oBin .lss 3 (.tmp 59) (.tmp 58) v59l11 x58) w28 fun x60 w29 =>
 pIf x60
 (∃ I21 : Value → Value → World → Prop,
 (pN Try.prog (oIdx 33 x0 v59l11) w29 fun x62 w30 =>
 pN Try.prog (oLoad 38 x62) w30 fun x63 w31 =>
 pN Try.prog (oAlloc 38) w31 fun x16 w32 =>
 pN Try.prog (oStore 38 x16 x63) w32 fun _ w33 =>
 ∃ I16 : Value → Value → World → Prop,
 (pN Try.prog (oBin .eql 3 (.tmp 64) (.tmp 65) v59l11 at1c8) w33 fun x66 w34 =>
 pIf x66
 (pN Try.prog (oCall 36 [x27]) w34 fun x68 w35 =>
 pN Try.prog (oCall 40 [x28]) w35 fun x70 w36 =>
 I16 x68 x70 w36)
 (I16 fork13l11 set14l11 w34)) ∧
 ∀ (_j16 : Env) (fork13c16 : Value) (set14c16 : Value) (w37 : World), I16 fork13c16 set14c16 w37 →
 pN Try.prog (oFld 38 x16 0) w37 fun x71 w38 =>
 pN Try.prog (oLoad 3 x71) w38 fun x72 w39 =>
 pN Try.prog (oCall 24 [x72]) w39 fun x73 w40 =>
 pN Try.prog (oFld 38 x16 1) w40 fun x77 w41 =>
 pN Try.prog (oLoad 4 x77) w41 fun x78 w42 =>
 pN Try.prog (oCall 23 [x23, x24, x73, x78]) w42 fun x79 w43 =>
 pN Try.prog (oUn .not x79) w43 fun x80 w44 =>
 pGd (gB x80 false) (pN Try.prog (oMv x27) w44) w44 fun x82 w45 =>
 pGd (gB x80 false) (pN Try.prog (oMv x28) w45) w45 fun x83 w46 =>
 pGd (gB x80 false) (pN Try.prog (oMv x73) w46) w46 fun x84 w47 =>
 pGd (gB x80 false) (pN Try.prog (oFld 38 x16 1) w47) w47 fun x85 w48 =>
 pGd (gB x80 false) (pN Try.prog (oLoad 4 x85) w48) w48 fun x86 w49 =>
 pGd (gB x80 false) (pN Try.prog (oCall 23 [x82, x83, x84, x86]) w49) w49 fun x87 w50 =>
 pGd (gB x80 false) (pN Try.prog (oUn .not x87) w50) w50 fun x88 w51 =>
 pN Try.prog (oPick x80 (.bool true) x88) w51 fun x89 w52 =>
 pGd (gB x89 false) (pN Try.prog (oMv v59l11) w52) w52 fun x91 w53 =>
 pGd (gB x89 false) (pN Try.prog (oMv at1c8) w53) w53 fun x92 w54 =>
 pGd (gB x89 false) (pN Try.prog (oBin .lss 3 (.tmp 91) (.tmp 92) x91 x92) w54) w54 fun x93 w55 =>
 pGd (gB x89 false) (pN Try.prog (oMv x93) w55) w55 fun x94 w56 =>
 pGd (gB x94 true) (pN Try.prog (oMv x31) w56) w56 fun x95 w57 =>
 pGd (gB x94 true) (pN Try.prog (oMv x32) w57) w57 fun x96 w58 =>
 pGd (gB x94 true) (pN Try.prog (oMv x73) w58) w58 fun x97 w59 =>
 pGd (gB x94 true) (pN Try.prog (oFld 38 x16 1) w59) w59 fun x98 w60 =>
 pGd (gB x94 true) (pN Try.prog (oLoad 4 x98) w60) w60 fun x99 w61 =>
 pGd (gB x94 true) (pN Try.prog (oCall 23 [x95, x96, x97, x99]) w61) w61 fun x100 w62 =>
 pGd (gB x94 true) (pN Try.prog (oUn .not x100) w62) w62 fun x101 w63 =>
 pGd (gB x89 false) (pN Try.prog (oPick x94 x101 (.bool false)) w63) w63 fun x102 w64 =>
 pN Try.prog (oPick x89 (.bool true) x102) w64 fun x103 w65 =>
 pIf x103
 (Q (.bool false) w65)
 (pN Try.prog (oCall 21 [x27]) w65 fun x105 w66 =>
 pN Try.prog (oCall 20 [x27]) w66 fun x107 w67 =>
 pN Try.prog (oBi .len #[29] 3 [false] [x107]) w67 fun x108 w68 =>
 pN Try.prog (oBin .neq 3 (.tmp 105) (.tmp 108) x105 x108) w68 fun x109 w69 =>
 pIf x109
 (Q (.bool false) w69)
 (I21 fork13c16 set14c16 w69))) ∧
 ∀ (_j21 : Env) (fork13c21 : Value) (set14c21 : Value) (w70 : World), I21 fork13c21 set14c21 w70 →
 pN Try.prog (oBin .add 3 (.tmp 59) (.const (.int .i64 1)) v59l11 (.int .i64 1)) w70 fun x110 w71 =>
 (L11 fork13c21 set14c21 x110 w71 ∧ m11 fork13c21 set14c21 x110 w71 < m11 fork13l11 set14l11 v59l11 w28))
 (∃ I25 : Value → Value → World → Prop,
 (pN Try.prog (oBi .len #[33] 3 [false] [x0]) w29 fun x113 w72 =>
 pN Try.prog (oBin .eql 3 (.tmp 111) (.tmp 113) at1c8 x113) w72 fun x114 w73 =>
 pIf x114
 (pN Try.prog (oCall 36 [x27]) w73 fun x116 w74 =>
 pN Try.prog (oCall 40 [x28]) w74 fun x118 w75 =>
 I25 x116 x118 w75)
 (I25 fork13l11 set14l11 w73)) ∧
 ∀ (_j25 : Env) (fork13c25 : Value) (set14c25 : Value) (w76 : World), I25 fork13c25 set14c25 w76 →
 pN Try.prog (oBin .eql 24 (.tmp 119) (.const (.pointer none)) fork13c25 (.pointer none)) w76 fun x120 w77 =>
 pGd (gB x120 false) (pN Try.prog (oMv set14c25) w77) w77 fun x122 w78 =>
 pGd (gB x120 false) (pN Try.prog (oBin .eql 34 (.tmp 122) (.const (.pointer none)) x122 (.pointer none)) w78) w78 fun x123 w79 =>
 pN Try.prog (oPick x120 (.bool true) x123) w79 fun x124 w80 =>
 pIf x124
 (Q (.bool false) w80)
 (pN Try.prog (oBi .len #[33] 3 [false] [x2]) w80 fun x126 w81 =>
 ∃ (L28 : Value → World → Prop) (m28 : Value → World → Nat),
 L28 (.int .i64 0) w81 ∧
 ∀ (_k28 : Env) (v127l28 : Value) (w82 : World), L28 v127l28 w82 →
 pN Try.prog (oBin .lss 3 (.tmp 127) (.tmp 126) v127l28 x126) w82 fun x128 w83 =>
 pIf x128
 (pN Try.prog (oIdx 33 x2 v127l28) w83 fun x129 w84 =>
 pN Try.prog (oLoad 38 x129) w84 fun x130 w85 =>
 pN Try.prog (oAlloc 38) w85 fun x19 w86 =>
 pN Try.prog (oStore 38 x19 x130) w86 fun _ w87 =>
 pN Try.prog (oFld 38 x19 0) w87 fun x131 w88 =>
 pN Try.prog (oLoad 3 x131) w88 fun x132 w89 =>
 pN Try.prog (oCall 24 [x132]) w89 fun x133 w90 =>
 pN Try.prog (oFld 38 x19 1) w90 fun x137 w91 =>
 pN Try.prog (oLoad 4 x137) w91 fun x138 w92 =>
 pN Try.prog (oCall 23 [fork13c25, set14c25, x133, x138]) w92 fun x139 w93 =>
 pN Try.prog (oUn .not x139) w93 fun x140 w94 =>
 pGd (gB x140 false) (pN Try.prog (oMv x31) w94) w94 fun x142 w95 =>
 pGd (gB x140 false) (pN Try.prog (oMv x32) w95) w95 fun x143 w96 =>
 pGd (gB x140 false) (pN Try.prog (oMv x133) w96) w96 fun x144 w97 =>
 pGd (gB x140 false) (pN Try.prog (oFld 38 x19 1) w97) w97 fun x145 w98 =>
 pGd (gB x140 false) (pN Try.prog (oLoad 4 x145) w98) w98 fun x146 w99 =>
 pGd (gB x140 false) (pN Try.prog (oCall 23 [x142, x143, x144, x146]) w99) w99 fun x147 w100 =>
 pGd (gB x140 false) (pN Try.prog (oUn .not x147) w100) w100 fun x148 w101 =>
 pN Try.prog (oPick x140 (.bool true) x148) w101 fun x149 w102 =>
 pIf x149
 (Q (.bool false) w102)
 (pN Try.prog (oBin .add 3 (.tmp 127) (.const (.int .i64 1)) v127l28 (.int .i64 1)) w102 fun x150 w103 =>
 (L28 x150 w103 ∧ m28 x150 w103 < m28 v127l28 w82)))
 (pDr w83 fun w104 =>
 pN Try.prog (oCall 20 [x23]) w104 fun x152 w105 =>
 (True) ∧ (pL Try.prog (oConv 29 9 x152) w105 fun x153 =>
 pN Try.prog (oCall 20 [x27]) w105 fun x155 w106 =>
 ((Sem.run Try.prog (oConv 29 9 x152) w106 = .ok (.value x153) w106) ∧ True) ∧ (pL Try.prog (oConv 29 9 x155) w106 fun x156 =>
 pA Try.prog (oBin .eql 9 (.tmp 153) (.tmp 156) x153 x156) fun x157 =>
 gA (gB x157 true) (pA Try.prog (oMv fork13c25)) fun x159 =>
 gA (gB x157 true) (pA Try.prog (oMv x31)) fun x162 =>
 pGd (gB x157 true) (pN Try.prog (oCall 20 [x159]) w106) w106 fun x160 w107 =>
 (True) ∧ (gA (gB x157 true) (pL Try.prog (oConv 29 9 x160) w107) fun x161 =>
 pGd (gB x157 true) (pN Try.prog (oCall 20 [x162]) w107) w107 fun x163 w108 =>
 ((((gB x157 true) = true → Sem.run Try.prog (oConv 29 9 x160) w108 = .ok (.value x161) w108)) ∧ True) ∧ (gA (gB x157 true) (pL Try.prog (oConv 29 9 x163) w108) fun x164 =>
 gA (gB x157 true) (pA Try.prog (oBin .eql 9 (.tmp 161) (.tmp 164) x161 x164)) fun x165 =>
 pA Try.prog (oPick x157 x165 (.bool false)) fun x166 =>
 gA (gB x166 true) (pA Try.prog (oMv x23)) fun x168 =>
 gA (gB x166 true) (pA Try.prog (oMv x27)) fun x170 =>
 pGd (gB x166 true) (pN Try.prog (oCall 21 [x168]) w108) w108 fun x169 w109 =>
 (True) ∧ (pGd (gB x166 true) (pN Try.prog (oCall 21 [x170]) w109) w109 fun x171 w110 =>
 (True) ∧ (gA (gB x166 true) (pA Try.prog (oBin .eql 3 (.tmp 169) (.tmp 171) x169 x171)) fun x172 =>
 pA Try.prog (oPick x166 x172 (.bool false)) fun x173 =>
 gA (gB x173 true) (pA Try.prog (oMv fork13c25)) fun x175 =>
 gA (gB x173 true) (pA Try.prog (oMv x31)) fun x177 =>
 pGd (gB x173 true) (pN Try.prog (oCall 21 [x175]) w110) w110 fun x176 w111 =>
 (True) ∧ (pGd (gB x173 true) (pN Try.prog (oCall 20 [x177]) w111) w111 fun x178 w112 =>
 (True) ∧ (gA (gB x173 true) (pA Try.prog (oBi .len #[29] 3 [false] [x178])) fun x179 =>
 gA (gB x173 true) (pA Try.prog (oBin .eql 3 (.tmp 176) (.tmp 179) x176 x179)) fun x180 =>
 pA Try.prog (oPick x173 x180 (.bool false)) fun x181 =>
 Q x181 w112))))))))))))
noncomputable def pithlaw07_RcencAsked.c : Code := match Try.f7.body with | some c => c | none => .skip
theorem pithlaw07_RcencAsked.eq (x0 : Value) (x1 : Value) (x2 : Value) (w : World) (Q : Value → World → Prop) : cw Try.prog pithlaw07_RcencAsked.H pithlaw07_RcencAsked.c (endQ Try.prog Try.f7.results.toList Q) (argsE [x0, x1, x2]) w = pithlaw07_RcencAsked.F x0 x1 x2 w Q := by kernel_rfl
theorem pithlaw07_RcencAsked.calls {x0 : Value} {x1 : Value} {x2 : Value} {w : World} {Q : Value → World → Prop} (h : pithlaw07_RcencAsked.F x0 x1 x2 w Q) : Calls Try.prog 7 #[x0, x1, x2] w (retP Q) :=
  calls_of_cw (H := pithlaw07_RcencAsked.H) (c := pithlaw07_RcencAsked.c) (args := [x0, x1, x2]) mixed Try.func7 (by kernel_rfl) (by kernel_rfl) (Nat.le_of_ble_eq_true (by kernel_rfl)) ((pithlaw07_RcencAsked.eq x0 x1 x2 w Q).mpr h)

/-! pithlaw07_begun: pith/pithlaw07.begun; temporaries: 2:e 3:s 4:f -/
def pithlaw07_begun.H : Hints := { cut := fun  | _ => none, loop := fun  | _ => ([], 0), order := fun  | _ => [] }
def pithlaw07_begun.F  (w : World) (Q : Value → World → Prop) : Prop :=
 pN Try.prog (oCall 18 []) w fun x5 w1 =>
 pN Try.prog (oCall 45 [(.int .i64 4)]) w1 fun x7 w2 =>
 pN Try.prog (oExt x7 0) w2 fun x8 w3 =>
 pN Try.prog (oExt x7 1) w3 fun x9 w4 =>
 pN Try.prog (oBin .eql 24 (.tmp 10) (.const (.pointer none)) x5 (.pointer none)) w4 fun x11 w5 =>
 pGd (gB x11 false) (pN Try.prog (oMv x8) w5) w5 fun x13 w6 =>
 pGd (gB x11 false) (pN Try.prog (oBin .eql 34 (.tmp 13) (.const (.pointer none)) x13 (.pointer none)) w6) w6 fun x14 w7 =>
 pN Try.prog (oPick x11 (.bool true) x14) w7 fun x15 w8 =>
 pGd (gB x15 false) (pN Try.prog (oMv x9) w8) w8 fun x17 w9 =>
 pGd (gB x15 false) (pN Try.prog (oBin .neq 27 (.tmp 17) (.const (.int .i64 0)) x17 (.int .i64 0)) w9) w9 fun x18 w10 =>
 pN Try.prog (oPick x15 (.bool true) x18) w10 fun x19 w11 =>
 pGd (gB x19 false) (pN Try.prog (oMv x5) w11) w11 fun x21 w12 =>
 pGd (gB x19 false) (pN Try.prog (oCall 36 [x21]) w12) w12 fun x22 w13 =>
 pGd (gB x19 false) (pN Try.prog (oBin .eql 24 (.tmp 22) (.const (.pointer none)) x22 (.pointer none)) w13) w13 fun x23 w14 =>
 pN Try.prog (oPick x19 (.bool true) x23) w14 fun x24 w15 =>
 pGd (gB x24 false) (pN Try.prog (oMv x5) w15) w15 fun x26 w16 =>
 pGd (gB x24 false) (pN Try.prog (oCall 20 [x26]) w16) w16 fun x27 w17 =>
 pGd (gB x24 false) (pN Try.prog (oConv 29 9 x27) w17) w17 fun x28 w18 =>
 pGd (gB x24 false) (pN Try.prog (oBin .neq 9 (.tmp 28) (.const (.string ⟨#[0, 0, 0, 0, 0]⟩)) x28 (.string ⟨#[0, 0, 0, 0, 0]⟩)) w18) w18 fun x29 w19 =>
 pN Try.prog (oPick x24 (.bool true) x29) w19 fun x30 w20 =>
 pIf x30
 (Q (.tuple #[(.pointer none), (.pointer none)]) w20)
 (pN Try.prog (oCall 27 [x5, x8, (.int .i64 0), (.int .i64 1)]) w20 fun x33 w21 =>
 pN Try.prog (oBin .neq 27 (.tmp 33) (.const (.int .i64 0)) x33 (.int .i64 0)) w21 fun x34 w22 =>
 pGd (gB x34 false) (pN Try.prog (oMv x5) w22) w22 fun x36 w23 =>
 pGd (gB x34 false) (pN Try.prog (oCall 20 [x36]) w23) w23 fun x37 w24 =>
 pGd (gB x34 false) (pN Try.prog (oConv 29 9 x37) w24) w24 fun x38 w25 =>
 pGd (gB x34 false) (pN Try.prog (oBin .neq 9 (.tmp 38) (.const (.string ⟨#[0, 127, 255, 252, 0]⟩)) x38 (.string ⟨#[0, 127, 255, 252, 0]⟩)) w25) w25 fun x39 w26 =>
 pN Try.prog (oPick x34 (.bool true) x39) w26 fun x40 w27 =>
 pIf x40
 (Q (.tuple #[(.pointer none), (.pointer none)]) w27)
 (Q (.tuple #[x5, x8]) w27))
noncomputable def pithlaw07_begun.c : Code := match Try.f22.body with | some c => c | none => .skip
theorem pithlaw07_begun.eq  (w : World) (Q : Value → World → Prop) : cw Try.prog pithlaw07_begun.H pithlaw07_begun.c (endQ Try.prog Try.f22.results.toList Q) (argsE []) w = pithlaw07_begun.F  w Q := by kernel_rfl
theorem pithlaw07_begun.calls  {w : World} {Q : Value → World → Prop} (h : pithlaw07_begun.F  w Q) : Calls Try.prog 22 #[] w (retP Q) :=
  calls_of_cw (H := pithlaw07_begun.H) (c := pithlaw07_begun.c) (args := []) mixed Try.func22 (by kernel_rfl) (by kernel_rfl) (Nat.le_of_ble_eq_true (by kernel_rfl)) ((pithlaw07_begun.eq  w Q).mpr h)

/-! pithlaw07_lays: pith/pithlaw07.lays; temporaries: 0:e 1:s 2:i 3:one 4:e 5:s 6:i 7:one -/
def pithlaw07_lays.H : Hints := { cut := fun  | _ => none, loop := fun  | _ => ([], 0), order := fun  | _ => [] }
def pithlaw07_lays.F (x0 : Value) (x1 : Value) (x2 : Value) (x3 : Value) (w : World) (Q : Value → World → Prop) : Prop :=
 pN Try.prog (oBin .eql 3 (.tmp 9) (.const (.int .i64 4)) x2 (.int .i64 4)) w fun x10 w1 =>
 pIf x10
 (pN Try.prog (oCall 26 [x3]) w1 fun x13 w2 =>
 pN Try.prog (oConv 3 26 x13) w2 fun x14 w3 =>
 pN Try.prog (oCall 19 [x0, x14, (.int .i64 1)]) w3 fun x15 w4 =>
 pN Try.prog (oBin .eql 27 (.tmp 15) (.const (.int .i64 0)) x15 (.int .i64 0)) w4 fun x16 w5 =>
 Q x16 w5)
 (pN Try.prog (oCall 26 [x3]) w1 fun x21 w6 =>
 pN Try.prog (oCall 27 [x0, x1, x2, x21]) w6 fun x22 w7 =>
 pN Try.prog (oBin .eql 27 (.tmp 22) (.const (.int .i64 0)) x22 (.int .i64 0)) w7 fun x23 w8 =>
 Q x23 w8)
noncomputable def pithlaw07_lays.c : Code := match Try.f23.body with | some c => c | none => .skip
theorem pithlaw07_lays.eq (x0 : Value) (x1 : Value) (x2 : Value) (x3 : Value) (w : World) (Q : Value → World → Prop) : cw Try.prog pithlaw07_lays.H pithlaw07_lays.c (endQ Try.prog Try.f23.results.toList Q) (argsE [x0, x1, x2, x3]) w = pithlaw07_lays.F x0 x1 x2 x3 w Q := by kernel_rfl
theorem pithlaw07_lays.calls {x0 : Value} {x1 : Value} {x2 : Value} {x3 : Value} {w : World} {Q : Value → World → Prop} (h : pithlaw07_lays.F x0 x1 x2 x3 w Q) : Calls Try.prog 23 #[x0, x1, x2, x3] w (retP Q) :=
  calls_of_cw (H := pithlaw07_lays.H) (c := pithlaw07_lays.c) (args := [x0, x1, x2, x3]) mixed Try.func23 (by kernel_rfl) (by kernel_rfl) (Nat.le_of_ble_eq_true (by kernel_rfl)) ((pithlaw07_lays.eq x0 x1 x2 x3 w Q).mpr h)

/-! pithlaw07_number: pith/pithlaw07.number; temporaries: 0:i 1:i -/
def pithlaw07_number.H : Hints := { cut := fun | 4 => some ([0], 481) | _ => none, loop := fun  | _ => ([], 0), order := fun  | _ => [] }
def pithlaw07_number.F (x0 : Value) (w : World) (Q : Value → World → Prop) : Prop :=
 pN Try.prog (oBin .rem 3 (.tmp 3) (.const (.int .i64 5)) x0 (.int .i64 5)) w fun x4 w1 =>
 ∃ I4 : Value → World → Prop,
 (pN Try.prog (oBin .lss 3 (.tmp 5) (.const (.int .i64 0)) x4 (.int .i64 0)) w1 fun x6 w2 =>
 pIf x6
 (pN Try.prog (oBin .add 3 (.tmp 7) (.const (.int .i64 5)) x4 (.int .i64 5)) w2 fun x8 w3 =>
 I4 x8 w3)
 (I4 x4 w2)) ∧
 ∀ (_j4 : Env) (i0c4 : Value) (w4 : World), I4 i0c4 w4 →
 Q i0c4 w4
noncomputable def pithlaw07_number.c : Code := match Try.f24.body with | some c => c | none => .skip
theorem pithlaw07_number.eq (x0 : Value) (w : World) (Q : Value → World → Prop) : cw Try.prog pithlaw07_number.H pithlaw07_number.c (endQ Try.prog Try.f24.results.toList Q) (argsE [x0]) w = pithlaw07_number.F x0 w Q := by kernel_rfl
theorem pithlaw07_number.calls {x0 : Value} {w : World} {Q : Value → World → Prop} (h : pithlaw07_number.F x0 w Q) : Calls Try.prog 24 #[x0] w (retP Q) :=
  calls_of_cw (H := pithlaw07_number.H) (c := pithlaw07_number.c) (args := [x0]) mixed Try.func24 (by kernel_rfl) (by kernel_rfl) (Nat.le_of_ble_eq_true (by kernel_rfl)) ((pithlaw07_number.eq x0 w Q).mpr h)

/-! pithlaw07_worth: pith/pithlaw07.worth; temporaries: 0:one 1:one -/
def pithlaw07_worth.H : Hints := { cut := fun  | _ => none, loop := fun  | _ => ([], 0), order := fun  | _ => [] }
def pithlaw07_worth.F (x0 : Value) (w : World) (Q : Value → World → Prop) : Prop :=
 pIf x0
 (Q (.int .i64 1) w)
 (Q (.int .i64 0) w)
noncomputable def pithlaw07_worth.c : Code := match Try.f26.body with | some c => c | none => .skip
theorem pithlaw07_worth.eq (x0 : Value) (w : World) (Q : Value → World → Prop) : cw Try.prog pithlaw07_worth.H pithlaw07_worth.c (endQ Try.prog Try.f26.results.toList Q) (argsE [x0]) w = pithlaw07_worth.F x0 w Q := by kernel_rfl
theorem pithlaw07_worth.calls {x0 : Value} {w : World} {Q : Value → World → Prop} (h : pithlaw07_worth.F x0 w Q) : Calls Try.prog 26 #[x0] w (retP Q) :=
  calls_of_cw (H := pithlaw07_worth.H) (c := pithlaw07_worth.c) (args := [x0]) mixed Try.func26 (by kernel_rfl) (by kernel_rfl) (Nat.le_of_ble_eq_true (by kernel_rfl)) ((pithlaw07_worth.eq x0 w Q).mpr h)

/-! pithlaw07_sets: pith/pithlaw07.sets; temporaries: 0:first 1:second 2:first 3:second 6:s 7:i 8:n 9:p 10:e 11:r 12:f -/
def pithlaw07_sets.H : Hints := { cut := fun | 7 => some ([8], 264241408) | 13 => some ([], 144115188075339680) | _ => none, loop := fun | 3 => ([17], 288230376151588768) | _ => ([], 0), order := fun  | _ => [] }
def pithlaw07_sets.F (x0 : Value) (x1 : Value) (w : World) (Q : Value → World → Prop) : Prop :=
 pN Try.prog (oAlloc 54) w fun x4 w1 =>
 pN Try.prog (oAlloc 54) w1 fun x6 w2 =>
 pN Try.prog (oBs 23 2 [(0, x0), (1, x1)]) w2 fun x15 w3 =>
 pN Try.prog (oBi .len #[23] 3 [false] [x15]) w3 fun x16 w4 =>
 ∃ (L3 : Value → World → Prop) (m3 : Value → World → Nat),
 L3 (.int .i64 0) w4 ∧
 ∀ (_k3 : Env) (v17l3 : Value) (w5 : World), L3 v17l3 w5 →
 pN Try.prog (oBin .lss 3 (.tmp 17) (.tmp 16) v17l3 x16) w5 fun x18 w6 =>
 pIf x18
 (∃ I13 : World → Prop,
 (pN Try.prog (oIdx 23 x15 v17l3) w6 fun x20 w7 =>
 pN Try.prog (oLoad 3 x20) w7 fun x21 w8 =>
 ∃ I7 : Value → World → Prop,
 (pN Try.prog (oBin .lss 3 (.tmp 22) (.const (.int .i64 0)) x21 (.int .i64 0)) w8 fun x23 w9 =>
 pGd (gB x23 false) (pN Try.prog (oMv x21) w9) w9 fun x25 w10 =>
 pGd (gB x23 false) (pN Try.prog (oBin .gtr 3 (.tmp 25) (.const (.int .i64 40)) x25 (.int .i64 40)) w10) w10 fun x26 w11 =>
 pN Try.prog (oPick x23 (.bool true) x26) w11 fun x27 w12 =>
 pIf x27
 (I7 (.int .i64 3) w12)
 (I7 x21 w12)) ∧
 ∀ (_j7 : Env) (n8c7 : Value) (w13 : World), I7 n8c7 w13 →
 pN Try.prog (oCall 45 [n8c7]) w13 fun x30 w14 =>
 pN Try.prog (oExt x30 0) w14 fun x31 w15 =>
 pN Try.prog (oExt x30 1) w15 fun x32 w16 =>
 pN Try.prog (oCall 46 [n8c7]) w16 fun x35 w17 =>
 pN Try.prog (oExt x35 0) w17 fun x36 w18 =>
 pN Try.prog (oExt x35 1) w18 fun x37 w19 =>
 pN Try.prog (oBin .eql 34 (.tmp 38) (.const (.pointer none)) x31 (.pointer none)) w19 fun x39 w20 =>
 pGd (gB x39 false) (pN Try.prog (oMv x32) w20) w20 fun x41 w21 =>
 pGd (gB x39 false) (pN Try.prog (oBin .neq 27 (.tmp 41) (.const (.int .i64 0)) x41 (.int .i64 0)) w21) w21 fun x42 w22 =>
 pN Try.prog (oPick x39 (.bool true) x42) w22 fun x43 w23 =>
 pGd (gB x43 false) (pN Try.prog (oMv x37) w23) w23 fun x45 w24 =>
 pGd (gB x43 false) (pN Try.prog (oBin .neq 3 (.tmp 45) (.const (.int .i64 0)) x45 (.int .i64 0)) w24) w24 fun x46 w25 =>
 pN Try.prog (oPick x43 (.bool true) x46) w25 fun x47 w26 =>
 pIf x47
 (pN Try.prog (oLoad 54 x6) w26 fun x48 w27 =>
 pN Try.prog (oStore 54 x4 x48) w27 fun _ w28 =>
 pL Try.prog (oRes 54 x4) w28 fun r4 =>
 Q (.tuple #[r4, (.bool false)]) w28)
 (pN Try.prog (oFld 54 x6 0) w26 fun x51 w29 =>
 pN Try.prog (oIdx 50 x51 v17l3) w29 fun x52 w30 =>
 pN Try.prog (oStore 34 x52 x31) w30 fun _ w31 =>
 pN Try.prog (oFld 54 x6 1) w31 fun x55 w32 =>
 pN Try.prog (oIdx 52 x55 v17l3) w32 fun x56 w33 =>
 pN Try.prog (oStore 51 x56 x36) w33 fun _ w34 =>
 I13 w34)) ∧
 ∀ (_j13 : Env) (w35 : World), I13 w35 →
 pN Try.prog (oBin .add 3 (.tmp 17) (.const (.int .i64 1)) v17l3 (.int .i64 1)) w35 fun x57 w36 =>
 (L3 x57 w36 ∧ m3 x57 w36 < m3 v17l3 w5))
 (pN Try.prog (oLoad 54 x6) w6 fun x58 w37 =>
 pN Try.prog (oStore 54 x4 x58) w37 fun _ w38 =>
 pL Try.prog (oRes 54 x4) w38 fun r4 =>
 Q (.tuple #[r4, (.bool true)]) w38)
noncomputable def pithlaw07_sets.c : Code := match Try.f29.body with | some c => c | none => .skip
theorem pithlaw07_sets.eq (x0 : Value) (x1 : Value) (w : World) (Q : Value → World → Prop) : cw Try.prog pithlaw07_sets.H pithlaw07_sets.c (endQ Try.prog Try.f29.results.toList Q) (argsE [x0, x1]) w = pithlaw07_sets.F x0 x1 w Q := by kernel_rfl
theorem pithlaw07_sets.calls {x0 : Value} {x1 : Value} {w : World} {Q : Value → World → Prop} (h : pithlaw07_sets.F x0 x1 w Q) : Calls Try.prog 29 #[x0, x1] w (retP Q) :=
  calls_of_cw (H := pithlaw07_sets.H) (c := pithlaw07_sets.c) (args := [x0, x1]) mixed Try.func29 (by kernel_rfl) (by kernel_rfl) (Nat.le_of_ble_eq_true (by kernel_rfl)) ((pithlaw07_sets.eq x0 x1 w Q).mpr h)

/-! pithlaw07_hold: pith/pithlaw07.hold; temporaries: 0:b 1:k 2:b 3:k 5:h -/
def pithlaw07_hold.H : Hints := { cut := fun | 5 => some ([], 66584576) | _ => none, loop := fun  | _ => ([], 0), order := fun  | _ => [] }
def pithlaw07_hold.F (x0 : Value) (x1 : Value) (w : World) (Q : Value → World → Prop) : Prop :=
 pN Try.prog (oAlloc 68) w fun x4 w1 =>
 pN Try.prog (oBi .len #[29] 3 [false] [x0]) w1 fun x8 w2 =>
 pN Try.prog (oBin .mul 3 (.tmp 9) (.const (.int .i64 2)) x1 (.int .i64 2)) w2 fun x10 w3 =>
 pN Try.prog (oBin .add 3 (.tmp 10) (.const (.int .i64 1)) x10 (.int .i64 1)) w3 fun x11 w4 =>
 pN Try.prog (oConv 3 5 x11) w4 fun x12 w5 =>
 pN Try.prog (oConv 29 9 x0) w5 fun x14 w6 =>
 pN Try.prog (oBin .rem 3 (.tmp 15) (.const (.int .i64 2)) x1 (.int .i64 2)) w6 fun x16 w7 =>
 pN Try.prog (oBin .eql 3 (.tmp 16) (.const (.int .i64 0)) x16 (.int .i64 0)) w7 fun x17 w8 =>
 pN Try.prog (oBuild 68 [(0, x0), (1, x8), (2, x12), (3, x14), (4, x17)]) w8 fun x18 w9 =>
 pN Try.prog (oAlloc 68) w9 fun x5 w10 =>
 pN Try.prog (oStore 68 x5 x18) w10 fun _ w11 =>
 ∃ I5 : World → Prop,
 (pN Try.prog (oFld 68 x5 4) w11 fun x19 w12 =>
 pN Try.prog (oLoad 4 x19) w12 fun x20 w13 =>
 pN Try.prog (oUn .not x20) w13 fun x21 w14 =>
 pIf x21
 (pN Try.prog (oLoad 68 x5) w14 fun x22 w15 =>
 pN Try.prog (oCall 85 [x22]) w15 fun _ w16 =>
 pN Try.prog (oLoad 68 x5) w16 fun x24 w17 =>
 pN Try.prog (oCall 86 [x24]) w17 fun x25 w18 =>
 pN Try.prog (oStore 68 x5 x25) w18 fun _ w19 =>
 I5 w19)
 (I5 w14)) ∧
 ∀ (_j5 : Env) (w20 : World), I5 w20 →
 pN Try.prog (oLoad 68 x5) w20 fun x26 w21 =>
 pN Try.prog (oStore 68 x4 x26) w21 fun _ w22 =>
 pL Try.prog (oRes 68 x4) w22 fun r4 =>
 Q r4 w22
noncomputable def pithlaw07_hold.c : Code := match Try.f35.body with | some c => c | none => .skip
theorem pithlaw07_hold.eq (x0 : Value) (x1 : Value) (w : World) (Q : Value → World → Prop) : cw Try.prog pithlaw07_hold.H pithlaw07_hold.c (endQ Try.prog Try.f35.results.toList Q) (argsE [x0, x1]) w = pithlaw07_hold.F x0 x1 w Q := by kernel_rfl
theorem pithlaw07_hold.calls {x0 : Value} {x1 : Value} {w : World} {Q : Value → World → Prop} (h : pithlaw07_hold.F x0 x1 w Q) : Calls Try.prog 35 #[x0, x1] w (retP Q) :=
  calls_of_cw (H := pithlaw07_hold.H) (c := pithlaw07_hold.c) (args := [x0, x1]) mixed Try.func35 (by kernel_rfl) (by kernel_rfl) (Nat.le_of_ble_eq_true (by kernel_rfl)) ((pithlaw07_hold.eq x0 x1 w Q).mpr h)

/-! pithlaw07_Sets_alike: (pith/pithlaw07.Sets).alike; temporaries: 0:s 1:s 3:k 4:n 5:i 6:p 7:e 8:q 9:f -/
def pithlaw07_Sets_alike.H : Hints := { cut := fun  | _ => none, loop := fun | 2 => ([3], 576460752303423484) | 8 => ([5], 576460752034989028) | _ => ([], 0), order := fun  | _ => [] }
def pithlaw07_Sets_alike.F (x0 : Value) (w : World) (Q : Value → World → Prop) : Prop :=
 pN Try.prog (oBox 54 x0) w fun x1 w1 =>
 ∃ (L2 : Value → World → Prop) (m2 : Value → World → Nat),
 L2 (.int .i64 0) w1 ∧
 ∀ (_k2 : Env) (k3l2 : Value) (w2 : World), L2 k3l2 w2 →
 pN Try.prog (oBin .lss 3 (.tmp 10) (.const (.int .i64 2)) k3l2 (.int .i64 2)) w2 fun x11 w3 =>
 pIf x11
 (pN Try.prog (oFld 54 x1 0) w3 fun x15 w4 =>
 pN Try.prog (oIdx 50 x15 k3l2) w4 fun x16 w5 =>
 pN Try.prog (oLoad 34 x16) w5 fun x17 w6 =>
 pN Try.prog (oCall 63 [x17]) w6 fun x18 w7 =>
 pN Try.prog (oFld 54 x1 1) w7 fun x21 w8 =>
 pN Try.prog (oIdx 52 x21 k3l2) w8 fun x22 w9 =>
 pN Try.prog (oLoad 51 x22) w9 fun x23 w10 =>
 pN Try.prog (oNil x23) w10 fun x24 w11 =>
 pN Try.prog (oFld 145 x24 0) w11 fun x25 w12 =>
 pN Try.prog (oLoad 3 x25) w12 fun x26 w13 =>
 pN Try.prog (oBin .neq 3 (.tmp 19) (.tmp 26) x18 x26) w13 fun x27 w14 =>
 pIf x27
 (Q (.bool false) w14)
 (∃ (L8 : Value → World → Prop) (m8 : Value → World → Nat),
 L8 (.int .i64 0) w14 ∧
 ∀ (_k8 : Env) (i5l8 : Value) (w15 : World), L8 i5l8 w15 →
 pN Try.prog (oBin .lss 3 (.tmp 28) (.tmp 29) i5l8 x18) w15 fun x30 w16 =>
 pIf x30
 (pN Try.prog (oFld 54 x1 0) w16 fun x35 w17 =>
 pN Try.prog (oIdx 50 x35 k3l2) w17 fun x36 w18 =>
 pN Try.prog (oLoad 34 x36) w18 fun x37 w19 =>
 pN Try.prog (oCall 28 [x37, i5l8]) w19 fun x39 w20 =>
 pN Try.prog (oExt x39 0) w20 fun x40 w21 =>
 pN Try.prog (oExt x39 1) w21 fun x41 w22 =>
 pN Try.prog (oFld 54 x1 1) w22 fun x44 w23 =>
 pN Try.prog (oIdx 52 x44 k3l2) w23 fun x45 w24 =>
 pN Try.prog (oLoad 51 x45) w24 fun x46 w25 =>
 pN Try.prog (oCall 79 [x46, i5l8]) w25 fun x48 w26 =>
 pN Try.prog (oExt x48 0) w26 fun x49 w27 =>
 pN Try.prog (oExt x48 1) w27 fun x50 w28 =>
 pN Try.prog (oBin .neq 3 (.tmp 51) (.tmp 52) x40 x49) w28 fun x53 w29 =>
 pGd (gB x53 false) (pN Try.prog (oMv x41) w29) w29 fun x55 w30 =>
 pGd (gB x53 false) (pN Try.prog (oMv x50) w30) w30 fun x56 w31 =>
 pGd (gB x53 false) (pN Try.prog (oBin .neq 3 (.tmp 55) (.tmp 56) x55 x56) w31) w31 fun x57 w32 =>
 pN Try.prog (oPick x53 (.bool true) x57) w32 fun x58 w33 =>
 pIf x58
 (Q (.bool false) w33)
 (pN Try.prog (oBin .add 3 (.tmp 31) (.const (.int .i64 1)) i5l8 (.int .i64 1)) w33 fun x32 w34 =>
 (L8 x32 w34 ∧ m8 x32 w34 < m8 i5l8 w15)))
 (pN Try.prog (oBin .add 3 (.tmp 12) (.const (.int .i64 1)) k3l2 (.int .i64 1)) w16 fun x13 w35 =>
 (L2 x13 w35 ∧ m2 x13 w35 < m2 k3l2 w2))))
 (Q (.bool true) w3)
noncomputable def pithlaw07_Sets_alike.c : Code := match Try.f38.body with | some c => c | none => .skip
theorem pithlaw07_Sets_alike.eq (x0 : Value) (w : World) (Q : Value → World → Prop) : cw Try.prog pithlaw07_Sets_alike.H pithlaw07_Sets_alike.c (endQ Try.prog Try.f38.results.toList Q) (argsE [x0]) w = pithlaw07_Sets_alike.F x0 w Q := by kernel_rfl
theorem pithlaw07_Sets_alike.calls {x0 : Value} {w : World} {Q : Value → World → Prop} (h : pithlaw07_Sets_alike.F x0 w Q) : Calls Try.prog 38 #[x0] w (retP Q) :=
  calls_of_cw (H := pithlaw07_Sets_alike.H) (c := pithlaw07_Sets_alike.c) (args := [x0]) mixed Try.func38 (by kernel_rfl) (by kernel_rfl) (Nat.le_of_ble_eq_true (by kernel_rfl)) ((pithlaw07_Sets_alike.eq x0 w Q).mpr h)

/-! pithlaw07_held: pith/pithlaw07.held; temporaries: 0:book 1:book 3:l 4:_ 5:h 6:_ 7:h 8:i 9:h 10:_ 11:h 12:_ 13:x -/
def pithlaw07_held.H : Hints := { cut := fun | 14 => some ([], 34634616275072) | 20 => some ([], 1151795604700005120) | _ => none, loop := fun | 3 => ([3, 16], 34359672876) | 10 => ([37], 70231305224320) | 16 => ([48], 2305561534236984064) | 22 => ([63], 154742495687300497507624964) | 27 => ([77], 77220136727884438534365188) | _ => ([], 0), order := fun  | _ => [] }
def pithlaw07_held.F (x0 : Value) (w : World) (Q : Value → World → Prop) : Prop :=
 pN Try.prog (oBi .len #[62] 3 [false] [x0]) w fun x15 w1 =>
 ∃ (L3 : Value → Value → World → Prop) (m3 : Value → Value → World → Nat),
 L3 (.slice none 0 0) (.int .i64 0) w1 ∧
 ∀ (_k3 : Env) (l3l3 : Value) (v16l3 : Value) (w2 : World), L3 l3l3 v16l3 w2 →
 pN Try.prog (oBin .lss 3 (.tmp 16) (.tmp 15) v16l3 x15) w2 fun x17 w3 =>
 pIf x17
 (pN Try.prog (oIdx 62 x0 v16l3) w3 fun x18 w4 =>
 pN Try.prog (oLoad 68 x18) w4 fun x19 w5 =>
 pN Try.prog (oAlloc 68) w5 fun x5 w6 =>
 pN Try.prog (oStore 68 x5 x19) w6 fun _ w7 =>
 pN Try.prog (oFld 68 x5 4) w7 fun x20 w8 =>
 pN Try.prog (oLoad 4 x20) w8 fun x21 w9 =>
 pGd (gB x21 true) (pN Try.prog (oFld 68 x5 0) w9) w9 fun x23 w10 =>
 pGd (gB x21 true) (pN Try.prog (oLoad 29 x23) w10) w10 fun x24 w11 =>
 pGd (gB x21 true) (pN Try.prog (oConv 29 9 x24) w11) w11 fun x25 w12 =>
 pGd (gB x21 true) (pN Try.prog (oFld 68 x5 3) w12) w12 fun x26 w13 =>
 pGd (gB x21 true) (pN Try.prog (oLoad 9 x26) w13) w13 fun x27 w14 =>
 pGd (gB x21 true) (pN Try.prog (oBin .neq 9 (.tmp 25) (.tmp 27) x25 x27) w14) w14 fun x28 w15 =>
 pN Try.prog (oPick x21 x28 (.bool false)) w15 fun x29 w16 =>
 pIf x29
 (Q (.bool false) w16)
 (pN Try.prog (oLoad 68 x5) w16 fun x31 w17 =>
 pN Try.prog (oBs 62 1 [(0, x31)]) w17 fun x32 w18 =>
 pN Try.prog (oBi .append #[62, 62] 62 [false, false] [l3l3, x32]) w18 fun x33 w19 =>
 pN Try.prog (oBin .add 3 (.tmp 16) (.const (.int .i64 1)) v16l3 (.int .i64 1)) w19 fun x34 w20 =>
 (L3 x33 x34 w20 ∧ m3 x33 x34 w20 < m3 l3l3 v16l3 w2)))
 (pN Try.prog (oBi .len #[62] 3 [false] [l3l3]) w3 fun x36 w21 =>
 ∃ (L10 : Value → World → Prop) (m10 : Value → World → Nat),
 L10 (.int .i64 0) w21 ∧
 ∀ (_k10 : Env) (v37l10 : Value) (w22 : World), L10 v37l10 w22 →
 pN Try.prog (oBin .lss 3 (.tmp 37) (.tmp 36) v37l10 x36) w22 fun x38 w23 =>
 pIf x38
 (∃ I14 : World → Prop,
 (pN Try.prog (oIdx 62 l3l3 v37l10) w23 fun x39 w24 =>
 pN Try.prog (oLoad 68 x39) w24 fun x40 w25 =>
 pN Try.prog (oAlloc 68) w25 fun x7 w26 =>
 pN Try.prog (oStore 68 x7 x40) w26 fun _ w27 =>
 pN Try.prog (oFld 68 x7 4) w27 fun x41 w28 =>
 pN Try.prog (oLoad 4 x41) w28 fun x42 w29 =>
 pIf x42
 (pN Try.prog (oLoad 68 x7) w29 fun x43 w30 =>
 pN Try.prog (oCall 85 [x43]) w30 fun _ w31 =>
 I14 w31)
 (I14 w29)) ∧
 ∀ (_j14 : Env) (w32 : World), I14 w32 →
 pN Try.prog (oBin .add 3 (.tmp 37) (.const (.int .i64 1)) v37l10 (.int .i64 1)) w32 fun x45 w33 =>
 (L10 x45 w33 ∧ m10 x45 w33 < m10 v37l10 w22))
 (pN Try.prog (oBi .len #[62] 3 [false] [l3l3]) w23 fun x47 w34 =>
 ∃ (L16 : Value → World → Prop) (m16 : Value → World → Nat),
 L16 (.int .i64 0) w34 ∧
 ∀ (_k16 : Env) (v48l16 : Value) (w35 : World), L16 v48l16 w35 →
 pN Try.prog (oBin .lss 3 (.tmp 48) (.tmp 47) v48l16 x47) w35 fun x49 w36 =>
 pIf x49
 (∃ I20 : World → Prop,
 (pN Try.prog (oIdx 62 l3l3 v48l16) w36 fun x51 w37 =>
 pN Try.prog (oLoad 68 x51) w37 fun x52 w38 =>
 pN Try.prog (oAlloc 68) w38 fun x9 w39 =>
 pN Try.prog (oStore 68 x9 x52) w39 fun _ w40 =>
 pN Try.prog (oFld 68 x9 4) w40 fun x53 w41 =>
 pN Try.prog (oLoad 4 x53) w41 fun x54 w42 =>
 pIf x54
 (pN Try.prog (oLoad 68 x9) w42 fun x57 w43 =>
 pN Try.prog (oCall 86 [x57]) w43 fun x58 w44 =>
 pN Try.prog (oIdx 62 l3l3 v48l16) w44 fun x59 w45 =>
 pN Try.prog (oStore 68 x59 x58) w45 fun _ w46 =>
 I20 w46)
 (I20 w42)) ∧
 ∀ (_j20 : Env) (w47 : World), I20 w47 →
 pN Try.prog (oBin .add 3 (.tmp 48) (.const (.int .i64 1)) v48l16 (.int .i64 1)) w47 fun x60 w48 =>
 (L16 x60 w48 ∧ m16 x60 w48 < m16 v48l16 w35))
 (pN Try.prog (oBi .len #[62] 3 [false] [l3l3]) w36 fun x62 w49 =>
 ∃ (L22 : Value → World → Prop) (m22 : Value → World → Nat),
 L22 (.int .i64 0) w49 ∧
 ∀ (_k22 : Env) (v63l22 : Value) (w50 : World), L22 v63l22 w50 →
 pN Try.prog (oBin .lss 3 (.tmp 63) (.tmp 62) v63l22 x62) w50 fun x64 w51 =>
 pIf x64
 (pN Try.prog (oIdx 62 l3l3 v63l22) w51 fun x65 w52 =>
 pN Try.prog (oLoad 68 x65) w52 fun x66 w53 =>
 pN Try.prog (oAlloc 68) w53 fun x11 w54 =>
 pN Try.prog (oStore 68 x11 x66) w54 fun _ w55 =>
 pN Try.prog (oFld 68 x11 0) w55 fun x67 w56 =>
 pN Try.prog (oLoad 29 x67) w56 fun x68 w57 =>
 pN Try.prog (oBi .len #[29] 3 [false] [x68]) w57 fun x69 w58 =>
 pN Try.prog (oFld 68 x11 1) w58 fun x70 w59 =>
 pN Try.prog (oLoad 3 x70) w59 fun x71 w60 =>
 pN Try.prog (oBin .add 3 (.tmp 71) (.const (.int .i64 3)) x71 (.int .i64 3)) w60 fun x72 w61 =>
 pN Try.prog (oBin .neq 3 (.tmp 69) (.tmp 72) x69 x72) w61 fun x73 w62 =>
 pIf x73
 (Q (.bool false) w62)
 (pN Try.prog (oFld 68 x11 0) w62 fun x74 w63 =>
 pN Try.prog (oLoad 29 x74) w63 fun x75 w64 =>
 pN Try.prog (oBi .len #[29] 3 [false] [x75]) w64 fun x76 w65 =>
 ∃ (L27 : Value → World → Prop) (m27 : Value → World → Nat),
 L27 (.int .i64 0) w65 ∧
 ∀ (_k27 : Env) (v77l27 : Value) (w66 : World), L27 v77l27 w66 →
 pN Try.prog (oBin .lss 3 (.tmp 77) (.tmp 76) v77l27 x76) w66 fun x78 w67 =>
 pIf x78
 (pN Try.prog (oIdx 29 x75 v77l27) w67 fun x79 w68 =>
 pN Try.prog (oLoad 5 x79) w68 fun x80 w69 =>
 pN Try.prog (oFld 68 x11 2) w69 fun x82 w70 =>
 pN Try.prog (oLoad 5 x82) w70 fun x83 w71 =>
 pN Try.prog (oBin .neq 5 (.tmp 81) (.tmp 83) x80 x83) w71 fun x84 w72 =>
 pIf x84
 (Q (.bool false) w72)
 (pN Try.prog (oBin .add 3 (.tmp 77) (.const (.int .i64 1)) v77l27 (.int .i64 1)) w72 fun x85 w73 =>
 (L27 x85 w73 ∧ m27 x85 w73 < m27 v77l27 w66)))
 (pN Try.prog (oBin .add 3 (.tmp 63) (.const (.int .i64 1)) v63l22 (.int .i64 1)) w67 fun x86 w74 =>
 (L22 x86 w74 ∧ m22 x86 w74 < m22 v63l22 w50))))
 (Q (.bool true) w51))))
noncomputable def pithlaw07_held.c : Code := match Try.f39.body with | some c => c | none => .skip
theorem pithlaw07_held.eq (x0 : Value) (w : World) (Q : Value → World → Prop) : cw Try.prog pithlaw07_held.H pithlaw07_held.c (endQ Try.prog Try.f39.results.toList Q) (argsE [x0]) w = pithlaw07_held.F x0 w Q := by kernel_rfl
theorem pithlaw07_held.calls {x0 : Value} {w : World} {Q : Value → World → Prop} (h : pithlaw07_held.F x0 w Q) : Calls Try.prog 39 #[x0] w (retP Q) :=
  calls_of_cw (H := pithlaw07_held.H) (c := pithlaw07_held.c) (args := [x0]) mixed Try.func39 (by kernel_rfl) (by kernel_rfl) (Nat.le_of_ble_eq_true (by kernel_rfl)) ((pithlaw07_held.eq x0 w Q).mpr h)

/-! pithlaw07_Held_written: (pith/pithlaw07.Held).written; temporaries: 0:h 1:h 2:i -/
def pithlaw07_Held_written.H : Hints := { cut := fun  | _ => none, loop := fun | 2 => ([2], 32764) | _ => ([], 0), order := fun  | _ => [] }
def pithlaw07_Held_written.F (x0 : Value) (w : World) (Q : Value → World → Prop) : Prop :=
 pN Try.prog (oBox 68 x0) w fun x1 w1 =>
 ∃ (L2 : Value → World → Prop) (m2 : Value → World → Nat),
 L2 (.int .i64 0) w1 ∧
 ∀ (_k2 : Env) (i2l2 : Value) (w2 : World), L2 i2l2 w2 →
 pN Try.prog (oFld 68 x1 1) w2 fun x4 w3 =>
 pN Try.prog (oLoad 3 x4) w3 fun x5 w4 =>
 pN Try.prog (oBin .lss 3 (.tmp 3) (.tmp 5) i2l2 x5) w4 fun x6 w5 =>
 pIf x6
 (pN Try.prog (oFld 68 x1 0) w5 fun x9 w6 =>
 pN Try.prog (oLoad 29 x9) w6 fun x10 w7 =>
 pN Try.prog (oFld 68 x1 2) w7 fun x12 w8 =>
 pN Try.prog (oLoad 5 x12) w8 fun x13 w9 =>
 pN Try.prog (oIdx 29 x10 i2l2) w9 fun x14 w10 =>
 pN Try.prog (oStore 5 x14 x13) w10 fun _ w11 =>
 pN Try.prog (oBin .add 3 (.tmp 7) (.const (.int .i64 1)) i2l2 (.int .i64 1)) w11 fun x8 w12 =>
 (L2 x8 w12 ∧ m2 x8 w12 < m2 i2l2 w2))
 (Q (.tuple #[]) w5)
noncomputable def pithlaw07_Held_written.c : Code := match Try.f85.body with | some c => c | none => .skip
theorem pithlaw07_Held_written.eq (x0 : Value) (w : World) (Q : Value → World → Prop) : cw Try.prog pithlaw07_Held_written.H pithlaw07_Held_written.c (endQ Try.prog Try.f85.results.toList Q) (argsE [x0]) w = pithlaw07_Held_written.F x0 w Q := by kernel_rfl
theorem pithlaw07_Held_written.calls {x0 : Value} {w : World} {Q : Value → World → Prop} (h : pithlaw07_Held_written.F x0 w Q) : Calls Try.prog 85 #[x0] w (retP Q) :=
  calls_of_cw (H := pithlaw07_Held_written.H) (c := pithlaw07_Held_written.c) (args := [x0]) mixed Try.func85 (by kernel_rfl) (by kernel_rfl) (Nat.le_of_ble_eq_true (by kernel_rfl)) ((pithlaw07_Held_written.eq x0 w Q).mpr h)

/-! pithlaw07_Held_grown: (pith/pithlaw07.Held).grown; temporaries: 0:h 1:h 3:i -/
def pithlaw07_Held_grown.H : Hints := { cut := fun  | _ => none, loop := fun | 2 => ([3], 32760) | _ => ([], 0), order := fun  | _ => [] }
def pithlaw07_Held_grown.F (x0 : Value) (w : World) (Q : Value → World → Prop) : Prop :=
 pN Try.prog (oBox 68 x0) w fun x1 w1 =>
 pN Try.prog (oAlloc 68) w1 fun x2 w2 =>
 ∃ (L2 : Value → World → Prop) (m2 : Value → World → Nat),
 L2 (.int .i64 0) w2 ∧
 ∀ (_k2 : Env) (i3l2 : Value) (w3 : World), L2 i3l2 w3 →
 pN Try.prog (oBin .lss 3 (.tmp 4) (.const (.int .i64 3)) i3l2 (.int .i64 3)) w3 fun x5 w4 =>
 pIf x5
 (pN Try.prog (oFld 68 x1 0) w4 fun x8 w5 =>
 pN Try.prog (oLoad 29 x8) w5 fun x9 w6 =>
 pN Try.prog (oFld 68 x1 2) w6 fun x10 w7 =>
 pN Try.prog (oLoad 5 x10) w7 fun x11 w8 =>
 pN Try.prog (oBs 29 1 [(0, x11)]) w8 fun x12 w9 =>
 pN Try.prog (oBi .append #[29, 29] 29 [false, false] [x9, x12]) w9 fun x13 w10 =>
 pN Try.prog (oFld 68 x1 0) w10 fun x14 w11 =>
 pN Try.prog (oStore 29 x14 x13) w11 fun _ w12 =>
 pN Try.prog (oBin .add 3 (.tmp 6) (.const (.int .i64 1)) i3l2 (.int .i64 1)) w12 fun x7 w13 =>
 (L2 x7 w13 ∧ m2 x7 w13 < m2 i3l2 w3))
 (pN Try.prog (oLoad 68 x1) w4 fun x15 w14 =>
 pN Try.prog (oStore 68 x2 x15) w14 fun _ w15 =>
 pL Try.prog (oRes 68 x2) w15 fun r2 =>
 Q r2 w15)
noncomputable def pithlaw07_Held_grown.c : Code := match Try.f86.body with | some c => c | none => .skip
theorem pithlaw07_Held_grown.eq (x0 : Value) (w : World) (Q : Value → World → Prop) : cw Try.prog pithlaw07_Held_grown.H pithlaw07_Held_grown.c (endQ Try.prog Try.f86.results.toList Q) (argsE [x0]) w = pithlaw07_Held_grown.F x0 w Q := by kernel_rfl
theorem pithlaw07_Held_grown.calls {x0 : Value} {w : World} {Q : Value → World → Prop} (h : pithlaw07_Held_grown.F x0 w Q) : Calls Try.prog 86 #[x0] w (retP Q) :=
  calls_of_cw (H := pithlaw07_Held_grown.H) (c := pithlaw07_Held_grown.c) (args := [x0]) mixed Try.func86 (by kernel_rfl) (by kernel_rfl) (Nat.le_of_ble_eq_true (by kernel_rfl)) ((pithlaw07_Held_grown.eq x0 w Q).mpr h)

end Go.Proofs.Ytoejaggkedlfmaa
