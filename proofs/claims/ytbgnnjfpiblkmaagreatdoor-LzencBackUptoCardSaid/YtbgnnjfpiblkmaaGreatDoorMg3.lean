/-
  Texts of one proof, one behind the other: LfPithlaw14, RPure, LfProb, Open, Types, Prob, TPure, LfSymbol, LfState.
-/
import Derived.Test.YtbgnnjfpiblkmaaGreatDoorRows
import Derived.ProofKit
import Derived.OpenShut
import Derived.ShutString
import Derived.ChangeOld
import Derived.SizedLaws
import Derived.Deep.Slices
import Derived.Deep.CondSized
import Derived.Test.YtbgnnjfpiblkmaaGreatDoorMg2
set_option linter.unusedSimpArgs false
set_option linter.unnecessarySimpa false
set_option linter.unusedSectionVars false
set_option linter.unusedVariables false

namespace Go.Proofs.YtbgnnjfpiblkmaaGreatDoor
open Go
set_option maxRecDepth 100000

def pithlaw14_LzencBack.H : Hints := { cut := fun | 13 => some ([8], 590151695170629796096) | 14 => some ([8], 9444714951340780945664) | 29 => some ([8], 2658455991569831745805362320747005712) | _ => none, loop := fun | 8 => ([8, 49], 5316911983139663491614665291167958800) | _ => ([], 0), order := fun | 20 => [(0, 0), (1, 1), (2, 3), (3, 7), (4, 15), (5, 31), (6, 63), (7, 127), (8, 255), (9, 511), (10, 1023)] | _ => [] }
def pithlaw14_LzencBack.F [Pan] (x0 x1 : Value) (w : World) (Q : Value → World → Prop) : Prop :=
 pN Tryz.prog (oBox 35 x0) w fun x2 w1 =>
 pN Tryz.prog (oFld 35 x2 0) w1 fun x12 w2 =>
 pN Tryz.prog (oLoad 23 x12) w2 fun x13 w3 =>
 pN Tryz.prog (oFld 35 x2 1) w3 fun x14 w4 =>
 pN Tryz.prog (oLoad 3 x14) w4 fun x15 w5 =>
 pN Tryz.prog (oCall 13 [x13, x15]) w5 fun x16 w6 =>
 pN Tryz.prog (oExt x16 0) w6 fun x17 w7 =>
 pN Tryz.prog (oExt x16 1) w7 fun x18 w8 =>
 pN Tryz.prog (oCall 15 [x18]) w8 fun x20 w9 =>
 pN Tryz.prog (oBin .neq 3 (.tmp 20) (.const (.int .i64 0)) x20 (.int .i64 0)) w9 fun x21 w10 =>
 pGd (gB x21 false) (pN Tryz.prog (oMv x17) w10) w10 fun x23 w11 =>
 pGd (gB x21 false) (pN Tryz.prog (oBin .eql 37 (.tmp 23) (.const (.pointer none)) x23 (.pointer none)) w11) w11 fun x24 w12 =>
 pN Tryz.prog (oPick x21 (.bool true) x24) w12 fun x25 w13 =>
 pIf x25
 (pN Tryz.prog (oBin .eql 37 (.tmp 26) (.const (.pointer none)) x17 (.pointer none)) w13 fun x27 w14 =>
 pGd (gB x27 true) (pN Tryz.prog (oMv x18) w14) w14 fun x29 w15 =>
 pGd (gB x27 true) (pN Tryz.prog (oCall 15 [x29]) w15) w15 fun x30 w16 =>
 pGd (gB x27 true) (pN Tryz.prog (oBin .neq 3 (.tmp 30) (.const (.int .i64 0)) x30 (.int .i64 0)) w16) w16 fun x31 w17 =>
 pN Tryz.prog (oPick x27 x31 (.bool false)) w17 fun x32 w18 =>
 pGd (gB x32 true) (pN Tryz.prog (oCall 16 []) w18) w18 fun x34 w19 =>
 pN Tryz.prog (oPick x32 x34 (.bool false)) w19 fun x35 w20 =>
 Q x35 w20)
 (pN Tryz.prog (oFld 35 x2 0) w13 fun x36 w21 =>
 pN Tryz.prog (oLoad 23 x36) w21 fun x37 w22 =>
 pN Tryz.prog (oBuild 79 [(1, x37)]) w22 fun x38 w23 =>
 pN Tryz.prog (oBox 79 x38) w23 fun x39 w24 =>
 pN Tryz.prog (oCall 34 [x39]) w24 fun _ w25 =>
 pN Tryz.prog (oBs 36 0 []) w25 fun x42 w26 =>
 pN Tryz.prog (oBi .append #[36, 36] 36 [false, false] [x42, x1]) w26 fun x44 w27 =>
 pN Tryz.prog (oBuild 50 [(1, (.int .i64 2))]) w27 fun x45 w28 =>
 pN Tryz.prog (oBs 36 1 [(0, x45)]) w28 fun x46 w29 =>
 pN Tryz.prog (oBi .append #[36, 36] 36 [false, false] [x44, x46]) w29 fun x47 w30 =>
 pN Tryz.prog (oBi .len #[36] 3 [false] [x47]) w30 fun x48 w31 =>
 ∃ (L8 : Value → Value → World → Prop) (m8 : Value → Value → World → Nat),
 L8 (.slice none 0 0) (.int .i64 0) w31 ∧
 ∀ (_k8 : Env) (put8l8 : Value) (v49l8 : Value) (w32 : World), L8 put8l8 v49l8 w32 →
 pN Tryz.prog (oBin .lss 3 (.tmp 49) (.tmp 48) v49l8 x48) w32 fun x50 w33 =>
 pIf x50
 (∃ I29 : Value → World → Prop,
 (pN Tryz.prog (oIdx 36 x47 v49l8) w33 fun x52 w34 =>
 pN Tryz.prog (oLoad 50 x52) w34 fun x53 w35 =>
 pN Tryz.prog (oAlloc 50) w35 fun x10 w36 =>
 pN Tryz.prog (oStore 50 x10 x53) w36 fun _ w37 =>
 ∃ I14 : Value → World → Prop,
 (pN Tryz.prog (oFld 50 x10 1) w37 fun x54 w38 =>
 pN Tryz.prog (oLoad 3 x54) w38 fun x55 w39 =>
 pN Tryz.prog (oBin .eql 3 (.tmp 55) (.const (.int .i64 0)) x55 (.int .i64 0)) w39 fun x56 w40 =>
 pIf x56
 (∃ I13 : Value → World → Prop,
 (pN Tryz.prog (oFld 50 x10 2) w40 fun x58 w41 =>
 pN Tryz.prog (oLoad 48 x58) w41 fun x59 w42 =>
 pN Tryz.prog (oCall 17 [x17, x59]) w42 fun x60 w43 =>
 pN Tryz.prog (oCall 15 [x60]) w43 fun x61 w44 =>
 pN Tryz.prog (oBin .eql 3 (.tmp 61) (.const (.int .i64 0)) x61 (.int .i64 0)) w44 fun x62 w45 =>
 pIf x62
 (pN Tryz.prog (oFld 50 x10 2) w45 fun x64 w46 =>
 pN Tryz.prog (oLoad 48 x64) w46 fun x65 w47 =>
 pN Tryz.prog (oCall 35 [x65]) w47 fun x66 w48 =>
 pN Tryz.prog (oBs 80 1 [(0, x66)]) w48 fun x67 w49 =>
 pN Tryz.prog (oBi .append #[80, 80] 80 [false, false] [put8l8, x67]) w49 fun x68 w50 =>
 I13 x68 w50)
 (I13 put8l8 w45)) ∧
 ∀ (_j13 : Env) (put8c13 : Value) (w51 : World), I13 put8c13 w51 →
 pN Tryz.prog (oBi .len #[36] 3 [false] [x1]) w51 fun x71 w52 =>
 pN Tryz.prog (oBin .lss 3 (.tmp 69) (.tmp 71) v49l8 x71) w52 fun x72 w53 =>
 pIf x72
 (I29 put8c13 w53)
 (I14 put8c13 w53))
 (I14 put8l8 w40)) ∧
 ∀ (_j14 : Env) (put8c14 : Value) (w54 : World), I14 put8c14 w54 →
 pN Tryz.prog (oCall 21 [x17]) w54 fun x75 w55 =>
 pN Tryz.prog (oCall 36 [x39, x75, put8c14]) w55 fun x77 w56 =>
 pN Tryz.prog (oUn .not x77) w56 fun x78 w57 =>
 pIf x78
 (Q (.bool false) w57)
 (pN Tryz.prog (oFld 50 x10 1) w57 fun x79 w58 =>
 pN Tryz.prog (oLoad 3 x79) w58 fun x80 w59 =>
 pN Tryz.prog (oBin .eql 3 (.tmp 80) (.const (.int .i64 3)) x80 (.int .i64 3)) w59 fun x82 w60 =>
 pIf x82
 (pN Tryz.prog (oFld 50 x10 3) w60 fun x84 w61 =>
 pN Tryz.prog (oLoad 30 x84) w61 fun x85 w62 =>
 pN Tryz.prog (oCall 24 [x17, x85]) w62 fun _ w63 =>
 pDr w63 fun w64 =>
 pA Tryz.prog (oNil x39) fun x89 =>
 pA Tryz.prog (oFld 79 x89 4) fun x90 =>
 pL Tryz.prog (oLoad 30 x90) w64 fun x91 =>
 pA Tryz.prog (oFld 50 x10 3) fun x92 =>
 pL Tryz.prog (oLoad 30 x92) w64 fun x93 =>
 pN Tryz.prog (oBi .append #[30, 30] 30 [false, false] [x91, x93]) w64 fun x94 w65 =>
 (True) ∧ (pA Tryz.prog (oNil x39) fun x95 =>
 pA Tryz.prog (oFld 79 x95 4) fun x96 =>
 pN Tryz.prog (oStore 30 x96 x94) w65 fun _ w66 =>
 (True) ∧ (I29 (.slice none 0 0) w66)))
 (pN Tryz.prog (oBin .eql 3 (.tmp 80) (.const (.int .i64 4)) x80 (.int .i64 4)) w60 fun x98 w67 =>
 pIf x98
 (pN Tryz.prog (oFld 50 x10 4) w67 fun x100 w68 =>
 pN Tryz.prog (oLoad 23 x100) w68 fun x101 w69 =>
 pN Tryz.prog (oCall 26 [x17, x101]) w69 fun x102 w70 =>
 pN Tryz.prog (oCall 15 [x102]) w70 fun x103 w71 =>
 pN Tryz.prog (oBin .eql 3 (.tmp 103) (.const (.int .i64 0)) x103 (.int .i64 0)) w71 fun x104 w72 =>
 pIf x104
 (pN Tryz.prog (oFld 50 x10 4) w72 fun x106 w73 =>
 pN Tryz.prog (oLoad 23 x106) w73 fun x107 w74 =>
 pN Tryz.prog (oNil x39) w74 fun x108 w75 =>
 pN Tryz.prog (oFld 79 x108 1) w75 fun x109 w76 =>
 pN Tryz.prog (oStore 23 x109 x107) w76 fun _ w77 =>
 pN Tryz.prog (oCall 34 [x39]) w77 fun _ w78 =>
 I29 (.slice none 0 0) w78)
 (I29 (.slice none 0 0) w72))
 (pN Tryz.prog (oBin .eql 3 (.tmp 80) (.const (.int .i64 5)) x80 (.int .i64 5)) w67 fun x113 w79 =>
 pIf x113
 (pN Tryz.prog (oCall 28 [x17]) w79 fun _ w80 =>
 pN Tryz.prog (oCall 34 [x39]) w80 fun _ w81 =>
 pN Tryz.prog (oNil x39) w81 fun x119 w82 =>
 pN Tryz.prog (oFld 79 x119 4) w82 fun x120 w83 =>
 pN Tryz.prog (oStore 30 x120 (.slice none 0 0)) w83 fun _ w84 =>
 I29 (.slice none 0 0) w84)
 (I29 (.slice none 0 0) w79))))) ∧
 ∀ (_j29 : Env) (put8c29 : Value) (w85 : World), I29 put8c29 w85 →
 pN Tryz.prog (oBin .add 3 (.tmp 49) (.const (.int .i64 1)) v49l8 (.int .i64 1)) w85 fun x121 w86 =>
 (L8 put8c29 x121 w86 ∧ m8 put8c29 x121 w86 < m8 put8l8 v49l8 w32))
 (pN Tryz.prog (oCall 16 []) w33 fun x122 w87 =>
 Q x122 w87))
theorem pithlaw14_LzencBack.calls [Pan] {x0 x1 : Value} {w : World} {Q : Value → World → Prop} (h : pithlaw14_LzencBack.F x0 x1 w Q) : Calls Tryz.prog 5 #[x0, x1] w (retP Q) := calls_lift mixed pithlaw14_LzencBack.H [x0, x1] Tryz.func5 (by kernel_rfl) (by kernel_rfl) h

def pithlaw14_num.F [Pan] (x0 : Value) (w : World) (Q : Value → World → Prop) : Prop :=
 Q x0 w
theorem pithlaw14_num.calls [Pan] {x0 : Value} {w : World} {Q : Value → World → Prop} (h : pithlaw14_num.F x0 w Q) : Calls Tryz.prog 15 #[x0] w (retP Q) := calls_lift mixed .z [x0] Tryz.func15 (by kernel_rfl) (by kernel_rfl) h

def pithlaw14_known.F [Pan]  (w : World) (Q : Value → World → Prop) : Prop :=
 pN Tryz.prog (oBuild 23 [(0, (.int .i64 3)), (2, (.int .i64 2))]) w fun x8 w1 =>
 pN Tryz.prog (oCall 13 [x8, (.int .i64 4096)]) w1 fun x9 w2 =>
 pN Tryz.prog (oExt x9 0) w2 fun x10 w3 =>
 pN Tryz.prog (oExt x9 1) w3 fun x11 w4 =>
 pN Tryz.prog (oCall 15 [x11]) w4 fun x13 w5 =>
 pN Tryz.prog (oBin .neq 3 (.tmp 13) (.const (.int .i64 0)) x13 (.int .i64 0)) w5 fun x14 w6 =>
 pGd (gB x14 false) (pN Tryz.prog (oMv x10) w6) w6 fun x16 w7 =>
 pGd (gB x14 false) (pN Tryz.prog (oBin .eql 37 (.tmp 16) (.const (.pointer none)) x16 (.pointer none)) w7) w7 fun x17 w8 =>
 pN Tryz.prog (oPick x14 (.bool true) x17) w8 fun x18 w9 =>
 pGd (gB x18 false) (pN Tryz.prog (oMv x10) w9) w9 fun x20 w10 =>
 pGd (gB x18 false) (pN Tryz.prog (oCall 32 [x20]) w10) w10 fun x21 w11 =>
 pGd (gB x18 false) (pN Tryz.prog (oBin .neq 3 (.tmp 21) (.const (.int .i64 5)) x21 (.int .i64 5)) w11) w11 fun x22 w12 =>
 pN Tryz.prog (oPick x18 (.bool true) x22) w12 fun x23 w13 =>
 pIf x23
 (Q (.bool false) w13)
 (pN Tryz.prog (oBuild 48 [(0, (.int .i64 1)), (1, (bv 255))]) w13 fun x26 w14 =>
 pN Tryz.prog (oCall 19 [x10, x26]) w14 fun x27 w15 =>
 pN Tryz.prog (oExt x27 0) w15 fun x28 w16 =>
 pN Tryz.prog (oExt x27 1) w16 fun x29 w17 =>
 pN Tryz.prog (oBuild 48 [(0, (.int .i64 2)), (2, (.int .i64 2)), (3, (.int .i64 1))]) w17 fun x32 w18 =>
 pN Tryz.prog (oCall 19 [x10, x32]) w18 fun x33 w19 =>
 pN Tryz.prog (oExt x33 0) w19 fun x34 w20 =>
 pN Tryz.prog (oExt x33 1) w20 fun x35 w21 =>
 pN Tryz.prog (oBin .eql 3 (.tmp 36) (.const (.int .i64 152)) x28 (.int .i64 152)) w21 fun x37 w22 =>
 pGd (gB x37 true) (pN Tryz.prog (oMv x29) w22) w22 fun x39 w23 =>
 pGd (gB x37 true) (pN Tryz.prog (oCall 15 [x39]) w23) w23 fun x40 w24 =>
 pGd (gB x37 true) (pN Tryz.prog (oBin .eql 3 (.tmp 40) (.const (.int .i64 0)) x40 (.int .i64 0)) w24) w24 fun x41 w25 =>
 pN Tryz.prog (oPick x37 x41 (.bool false)) w25 fun x42 w26 =>
 pGd (gB x42 true) (pN Tryz.prog (oMv x34) w26) w26 fun x44 w27 =>
 pGd (gB x42 true) (pN Tryz.prog (oBin .eql 3 (.tmp 44) (.const (.int .i64 0)) x44 (.int .i64 0)) w27) w27 fun x45 w28 =>
 pN Tryz.prog (oPick x42 x45 (.bool false)) w28 fun x46 w29 =>
 pGd (gB x46 true) (pN Tryz.prog (oMv x35) w29) w29 fun x48 w30 =>
 pGd (gB x46 true) (pN Tryz.prog (oCall 15 [x48]) w30) w30 fun x49 w31 =>
 pGd (gB x46 true) (pN Tryz.prog (oBin .eql 3 (.tmp 49) (.const (.int .i64 7)) x49 (.int .i64 7)) w31) w31 fun x50 w32 =>
 pN Tryz.prog (oPick x46 x50 (.bool false)) w32 fun x51 w33 =>
 pGd (gB x51 true) (pN Tryz.prog (oMv x10) w33) w33 fun x53 w34 =>
 pGd (gB x51 true) (pN Tryz.prog (oCall 21 [x53]) w34) w34 fun x54 w35 =>
 pGd (gB x51 true) (pN Tryz.prog (oConv 30 9 x54) w35) w35 fun x55 w36 =>
 pGd (gB x51 true) (pN Tryz.prog (oBin .eql 9 (.tmp 55) (.const (.string ⟨#[0, 0, 0, 0, 0]⟩)) x55 (.string ⟨#[0, 0, 0, 0, 0]⟩)) w36) w36 fun x56 w37 =>
 pN Tryz.prog (oPick x51 x56 (.bool false)) w37 fun x57 w38 =>
 Q x57 w38)
theorem pithlaw14_known.calls [Pan]  {w : World} {Q : Value → World → Prop} (h : pithlaw14_known.F  w Q) : Calls Tryz.prog 16 #[] w (retP Q) := calls_lift mixed .z [] Tryz.func16 (by kernel_rfl) (by kernel_rfl) h

def pithlaw14_Reader_begin.F [Pan] (x0 : Value) (w : World) (Q : Value → World → Prop) : Prop :=
 pN Tryz.prog (oBuild 67 [(0, (.int .i64 1)), (1, (.int .i64 1)), (2, (.int .i64 1)), (3, (.int .i64 1))]) w fun x4 w1 =>
 pN Tryz.prog (oNil x0) w1 fun x5 w2 =>
 pN Tryz.prog (oFld 79 x5 2) w2 fun x6 w3 =>
 pN Tryz.prog (oStore 3 x6 (.int .i64 0)) w3 fun _ w4 =>
 pN Tryz.prog (oNil x0) w4 fun x7 w5 =>
 pN Tryz.prog (oFld 79 x7 3) w5 fun x8 w6 =>
 pN Tryz.prog (oStore 67 x8 x4) w6 fun _ w7 =>
 pN Tryz.prog (oMap 77 none) w7 fun x10 w8 =>
 pN Tryz.prog (oNil x0) w8 fun x11 w9 =>
 pN Tryz.prog (oFld 79 x11 5) w9 fun x12 w10 =>
 pN Tryz.prog (oStore 77 x12 x10) w10 fun _ w11 =>
 Q (.tuple #[]) w11
theorem pithlaw14_Reader_begin.calls [Pan] {x0 : Value} {w : World} {Q : Value → World → Prop} (h : pithlaw14_Reader_begin.F x0 w Q) : Calls Tryz.prog 34 #[x0] w (retP Q) := calls_lift mixed .z [x0] Tryz.func34 (by kernel_rfl) (by kernel_rfl) h

def pithlaw14_used.F [Pan] (x0 : Value) (w : World) (Q : Value → World → Prop) : Prop :=
 pN Tryz.prog (oBox 48 x0) w fun x1 w1 =>
 pN Tryz.prog (oAlloc 48) w1 fun x2 w2 =>
 pN Tryz.prog (oFld 48 x1 0) w2 fun x3 w3 =>
 pN Tryz.prog (oLoad 3 x3) w3 fun x4 w4 =>
 pN Tryz.prog (oBin .eql 3 (.tmp 4) (.const (.int .i64 1)) x4 (.int .i64 1)) w4 fun x6 w5 =>
 pIf x6
 (pN Tryz.prog (oFld 48 x1 0) w5 fun x7 w6 =>
 pN Tryz.prog (oLoad 3 x7) w6 fun x8 w7 =>
 pN Tryz.prog (oFld 48 x1 1) w7 fun x9 w8 =>
 pN Tryz.prog (oLoad 5 x9) w8 fun x10 w9 =>
 pN Tryz.prog (oBuild 48 [(0, x8), (1, x10)]) w9 fun x11 w10 =>
 pN Tryz.prog (oStore 48 x2 x11) w10 fun _ w11 =>
 pL Tryz.prog (oRes 48 x2) w11 fun r2 =>
 Q r2 w11)
 (pN Tryz.prog (oBin .eql 3 (.tmp 4) (.const (.int .i64 4)) x4 (.int .i64 4)) w5 fun x13 w12 =>
 pIf x13
 (pN Tryz.prog (oFld 48 x1 0) w12 fun x14 w13 =>
 pN Tryz.prog (oLoad 3 x14) w13 fun x15 w14 =>
 pN Tryz.prog (oBuild 48 [(0, x15)]) w14 fun x16 w15 =>
 pN Tryz.prog (oStore 48 x2 x16) w15 fun _ w16 =>
 pL Tryz.prog (oRes 48 x2) w16 fun r2 =>
 Q r2 w16)
 (pN Tryz.prog (oFld 48 x1 0) w12 fun x17 w17 =>
 pN Tryz.prog (oLoad 3 x17) w17 fun x18 w18 =>
 pN Tryz.prog (oFld 48 x1 2) w18 fun x19 w19 =>
 pN Tryz.prog (oLoad 3 x19) w19 fun x20 w20 =>
 pN Tryz.prog (oFld 48 x1 3) w20 fun x21 w21 =>
 pN Tryz.prog (oLoad 3 x21) w21 fun x22 w22 =>
 pN Tryz.prog (oBuild 48 [(0, x18), (2, x20), (3, x22)]) w22 fun x23 w23 =>
 pN Tryz.prog (oStore 48 x2 x23) w23 fun _ w24 =>
 pL Tryz.prog (oRes 48 x2) w24 fun r2 =>
 Q r2 w24))
theorem pithlaw14_used.calls [Pan] {x0 : Value} {w : World} {Q : Value → World → Prop} (h : pithlaw14_used.F x0 w Q) : Calls Tryz.prog 35 #[x0] w (retP Q) := calls_lift mixed .z [x0] Tryz.func35 (by kernel_rfl) (by kernel_rfl) h

def pithlaw14_Reader_reads.H : Hints := { cut := fun  | _ => none, loop := fun | 6 => ([30], 9007198181002304) | _ => ([], 0), order := fun  | _ => [] }
def pithlaw14_Reader_reads.F [Pan] (x0 x1 x2 : Value) (w : World) (Q : Value → World → Prop) : Prop :=
 pN Tryz.prog (oCall 87 [x1]) w fun x14 w1 =>
 pN Tryz.prog (oExt x14 0) w1 fun x15 w2 =>
 pN Tryz.prog (oExt x14 1) w2 fun x16 w3 =>
 pN Tryz.prog (oCall 15 [x16]) w3 fun x18 w4 =>
 pN Tryz.prog (oBin .neq 3 (.tmp 18) (.const (.int .i64 0)) x18 (.int .i64 0)) w4 fun x19 w5 =>
 pGd (gB x19 false) (pN Tryz.prog (oMv x15) w5) w5 fun x21 w6 =>
 pGd (gB x19 false) (pN Tryz.prog (oBin .eql 76 (.tmp 21) (.const (.pointer none)) x21 (.pointer none)) w6) w6 fun x22 w7 =>
 pN Tryz.prog (oPick x19 (.bool true) x22) w7 fun x23 w8 =>
 pIf x23
 (Q (.bool false) w8)
 (pN Tryz.prog (oNil x0) w8 fun x26 w9 =>
 pN Tryz.prog (oFld 79 x26 0) w9 fun x27 w10 =>
 pN Tryz.prog (oStore 76 x27 x15) w10 fun _ w11 =>
 pN Tryz.prog (oBi .len #[80] 3 [false] [x2]) w11 fun x29 w12 =>
 ∃ (L6 : Value → World → Prop) (m6 : Value → World → Nat),
 L6 (.int .i64 0) w12 ∧
 ∀ (_k6 : Env) (v30l6 : Value) (w13 : World), L6 v30l6 w13 →
 pN Tryz.prog (oBin .lss 3 (.tmp 30) (.tmp 29) v30l6 x29) w13 fun x31 w14 =>
 pIf x31
 (pN Tryz.prog (oIdx 80 x2 v30l6) w14 fun x32 w15 =>
 pN Tryz.prog (oLoad 48 x32) w15 fun x33 w16 =>
 pN Tryz.prog (oAlloc 48) w16 fun x10 w17 =>
 pN Tryz.prog (oStore 48 x10 x33) w17 fun _ w18 =>
 pN Tryz.prog (oCall 88 [x0]) w18 fun x35 w19 =>
 pN Tryz.prog (oAlloc 48) w19 fun x11 w20 =>
 pN Tryz.prog (oStore 48 x11 x35) w20 fun _ w21 =>
 pN Tryz.prog (oNil x0) w21 fun x37 w22 =>
 pN Tryz.prog (oFld 79 x37 6) w22 fun x38 w23 =>
 pN Tryz.prog (oLoad 4 x38) w23 fun x39 w24 =>
 pGd (gB x39 false) (pN Tryz.prog (oLoad 48 x11) w24) w24 fun x41 w25 =>
 pGd (gB x39 false) (pN Tryz.prog (oLoad 48 x10) w25) w25 fun x42 w26 =>
 pGd (gB x39 false) (pN Tryz.prog (oBin .neq 48 (.tmp 41) (.tmp 42) x41 x42) w26) w26 fun x43 w27 =>
 pN Tryz.prog (oPick x39 (.bool true) x43) w27 fun x44 w28 =>
 pIf x44
 (Q (.bool false) w28)
 (pN Tryz.prog (oLoad 48 x11) w28 fun x46 w29 =>
 pN Tryz.prog (oCall 89 [x0, x46]) w29 fun _ w30 =>
 pN Tryz.prog (oNil x0) w30 fun x49 w31 =>
 pN Tryz.prog (oFld 79 x49 6) w31 fun x50 w32 =>
 pN Tryz.prog (oLoad 4 x50) w32 fun x51 w33 =>
 pIf x51
 (Q (.bool false) w33)
 (pN Tryz.prog (oBin .add 3 (.tmp 30) (.const (.int .i64 1)) v30l6 (.int .i64 1)) w33 fun x52 w34 =>
 (L6 x52 w34 ∧ m6 x52 w34 < m6 v30l6 w13))))
 (pN Tryz.prog (oCall 90 [x15]) w14 fun x54 w35 =>
 Q x54 w35))
theorem pithlaw14_Reader_reads.calls [Pan] {x0 x1 x2 : Value} {w : World} {Q : Value → World → Prop} (h : pithlaw14_Reader_reads.F x0 x1 x2 w Q) : Calls Tryz.prog 36 #[x0, x1, x2] w (retP Q) := calls_lift mixed pithlaw14_Reader_reads.H [x0, x1, x2] Tryz.func36 (by kernel_rfl) (by kernel_rfl) h

def pithlaw14_Reader_symbol.H : Hints := { cut := fun | 14 => some ([5], 2417851639088520861057056) | _ => none, loop := fun  | _ => ([], 0), order := fun | 1 => [(0, 0), (1, 1), (2, 3), (3, 7), (4, 15), (5, 31), (6, 63), (7, 127), (8, 255), (9, 511), (10, 1023), (11, 2047), (12, 4095), (13, 8191)] | _ => [] }
def pithlaw14_Reader_symbol.F [Pan] (x0 : Value) (w : World) (Q : Value → World → Prop) : Prop :=
 pN Tryz.prog (oAlloc 48) w fun x2 w1 =>
 pDr w1 fun w2 =>
 pA Tryz.prog (oNil x0) fun x7 =>
 pA Tryz.prog (oFld 79 x7 4) fun x8 =>
 pL Tryz.prog (oLoad 30 x8) w2 fun x9 =>
 pA Tryz.prog (oBi .len #[30] 3 [false] [x9]) fun x10 =>
 pA Tryz.prog (oNil x0) fun x12 =>
 pA Tryz.prog (oFld 79 x12 1) fun x13 =>
 pA Tryz.prog (oFld 23 x13 2) fun x14 =>
 pL Tryz.prog (oLoad 3 x14) w2 fun x15 =>
 pA Tryz.prog (oBin .shl 3 (.const (.int .i64 1)) (.tmp 15) (.int .i64 1) x15) fun x16 =>
 pA Tryz.prog (oBin .sub 3 (.tmp 16) (.const (.int .i64 1)) x16 (.int .i64 1)) fun x17 =>
 pA Tryz.prog (oBin .and 3 (.tmp 10) (.tmp 17) x10 x17) fun x18 =>
 pN Tryz.prog (oNil x0) w2 fun x21 w3 =>
 pN Tryz.prog (oFld 79 x21 2) w3 fun x22 w4 =>
 pN Tryz.prog (oLoad 3 x22) w4 fun x23 w5 =>
 pN Tryz.prog (oBs 217 2 [(0, x23), (1, x18)]) w5 fun x25 w6 =>
 pN Tryz.prog (oCall 128 [x0, (.int .i64 0), (.string ⟨#[109, 97, 116, 99, 104]⟩), x25]) w6 fun x26 w7 =>
 pN Tryz.prog (oBin .eql 3 (.tmp 26) (.const (.int .i64 0)) x26 (.int .i64 0)) w7 fun x27 w8 =>
 pIf x27
 (pN Tryz.prog (oCall 129 [x0]) w8 fun x29 w9 =>
 pN Tryz.prog (oBuild 48 [(0, (.int .i64 1)), (1, x29)]) w9 fun x30 w10 =>
 pN Tryz.prog (oStore 48 x2 x30) w10 fun _ w11 =>
 pL Tryz.prog (oRes 48 x2) w11 fun r2 =>
 Q r2 w11)
 (pN Tryz.prog (oNil x0) w8 fun x33 w12 =>
 pN Tryz.prog (oFld 79 x33 2) w12 fun x34 w13 =>
 pN Tryz.prog (oLoad 3 x34) w13 fun x35 w14 =>
 pN Tryz.prog (oBs 217 1 [(0, x35)]) w14 fun x36 w15 =>
 pN Tryz.prog (oCall 128 [x0, (.int .i64 0), (.string ⟨#[114, 101, 112]⟩), x36]) w15 fun x37 w16 =>
 pN Tryz.prog (oBin .eql 3 (.tmp 37) (.const (.int .i64 0)) x37 (.int .i64 0)) w16 fun x38 w17 =>
 pIf x38
 (pN Tryz.prog (oCall 130 [x0, (.string ⟨#[77, 97, 116, 99, 104]⟩), x18]) w17 fun x41 w18 =>
 pN Tryz.prog (oCall 131 [x0, x41]) w18 fun x45 w19 =>
 pN Tryz.prog (oBuild 48 [(0, (.int .i64 2)), (2, x41), (3, x45)]) w19 fun x46 w20 =>
 pN Tryz.prog (oStore 48 x2 x46) w20 fun _ w21 =>
 pL Tryz.prog (oRes 48 x2) w21 fun r2 =>
 Q r2 w21)
 (∃ I14 : Value → World → Prop,
 (pN Tryz.prog (oNil x0) w17 fun x49 w22 =>
 pN Tryz.prog (oFld 79 x49 2) w22 fun x50 w23 =>
 pN Tryz.prog (oLoad 3 x50) w23 fun x51 w24 =>
 pN Tryz.prog (oBs 217 1 [(0, x51)]) w24 fun x52 w25 =>
 pN Tryz.prog (oCall 128 [x0, (.int .i64 0), (.string ⟨#[114, 101, 112, 48]⟩), x52]) w25 fun x53 w26 =>
 pN Tryz.prog (oBin .eql 3 (.tmp 53) (.const (.int .i64 0)) x53 (.int .i64 0)) w26 fun x54 w27 =>
 pIf x54
 (pN Tryz.prog (oNil x0) w27 fun x57 w28 =>
 pN Tryz.prog (oFld 79 x57 2) w28 fun x58 w29 =>
 pN Tryz.prog (oLoad 3 x58) w29 fun x59 w30 =>
 pN Tryz.prog (oBs 217 2 [(0, x59), (1, x18)]) w30 fun x61 w31 =>
 pN Tryz.prog (oCall 128 [x0, (.int .i64 0), (.string ⟨#[108, 111, 110, 103]⟩), x61]) w31 fun x62 w32 =>
 pN Tryz.prog (oBin .eql 3 (.tmp 62) (.const (.int .i64 0)) x62 (.int .i64 0)) w32 fun x63 w33 =>
 pIf x63
 (pN Tryz.prog (oBuild 48 [(0, (.int .i64 4))]) w33 fun x64 w34 =>
 pN Tryz.prog (oStore 48 x2 x64) w34 fun _ w35 =>
 pL Tryz.prog (oRes 48 x2) w35 fun r2 =>
 Q r2 w35)
 (I14 (.int .i64 0) w33))
 (pN Tryz.prog (oNil x0) w27 fun x67 w36 =>
 pN Tryz.prog (oFld 79 x67 2) w36 fun x68 w37 =>
 pN Tryz.prog (oLoad 3 x68) w37 fun x69 w38 =>
 pN Tryz.prog (oBs 217 1 [(0, x69)]) w38 fun x70 w39 =>
 pN Tryz.prog (oCall 128 [x0, (.int .i64 0), (.string ⟨#[114, 101, 112, 49]⟩), x70]) w39 fun x71 w40 =>
 pN Tryz.prog (oBin .eql 3 (.tmp 71) (.const (.int .i64 0)) x71 (.int .i64 0)) w40 fun x72 w41 =>
 pIf x72
 (I14 (.int .i64 1) w41)
 (pN Tryz.prog (oNil x0) w41 fun x75 w42 =>
 pN Tryz.prog (oFld 79 x75 2) w42 fun x76 w43 =>
 pN Tryz.prog (oLoad 3 x76) w43 fun x77 w44 =>
 pN Tryz.prog (oBs 217 1 [(0, x77)]) w44 fun x78 w45 =>
 pN Tryz.prog (oCall 128 [x0, (.int .i64 0), (.string ⟨#[114, 101, 112, 50]⟩), x78]) w45 fun x79 w46 =>
 pN Tryz.prog (oBin .add 3 (.const (.int .i64 2)) (.tmp 79) (.int .i64 2) x79) w46 fun x80 w47 =>
 I14 x80 w47))) ∧
 ∀ (_j14 : Env) (which5c14 : Value) (w48 : World), I14 which5c14 w48 →
 pN Tryz.prog (oCall 130 [x0, (.string ⟨#[82, 101, 112]⟩), x18]) w48 fun x83 w49 =>
 pN Tryz.prog (oBuild 48 [(0, (.int .i64 3)), (2, x83), (3, which5c14)]) w49 fun x85 w50 =>
 pN Tryz.prog (oStore 48 x2 x85) w50 fun _ w51 =>
 pL Tryz.prog (oRes 48 x2) w51 fun r2 =>
 Q r2 w51))
theorem pithlaw14_Reader_symbol.calls [Pan] {x0 : Value} {w : World} {Q : Value → World → Prop} (h : pithlaw14_Reader_symbol.F x0 w Q) : Calls Tryz.prog 88 #[x0] w (retP Q) := calls_lift mixed pithlaw14_Reader_symbol.H [x0] Tryz.func88 (by kernel_rfl) (by kernel_rfl) h

def pithlaw14_Reader_apply.H : Hints := { cut := fun | 11 => some ([], 18889465922682487832576) | _ => none, loop := fun | 7 => ([41], 37778931860758138454016) | _ => ([], 0), order := fun | 4 => [(0, 0), (1, 1), (2, 3), (3, 7), (4, 15), (5, 31), (6, 63), (7, 127), (8, 255), (9, 511), (10, 1023), (11, 2047)] | 9 => [(0, 0), (1, 1), (2, 3), (3, 7), (4, 15), (5, 31), (6, 63), (7, 127), (8, 255), (9, 511), (10, 1023), (11, 2047)] | 10 => [(0, 0), (1, 1), (2, 3), (3, 7), (4, 15), (5, 31), (6, 63), (7, 127), (8, 255), (9, 511), (10, 1023), (11, 2047), (12, 4095), (13, 8191), (14, 16383), (15, 32767), (16, 65535), (17, 131071)] | 12 => [(0, 0), (1, 1), (2, 3), (3, 7), (4, 15), (5, 31), (6, 63), (7, 127), (8, 255), (9, 511), (10, 1023), (11, 2047), (12, 4095), (13, 8191), (14, 16383)] | _ => [] }
def pithlaw14_Reader_apply.F [Pan] (x0 x1 : Value) (w : World) (Q : Value → World → Prop) : Prop :=
 pN Tryz.prog (oBox 48 x1) w fun x3 w1 =>
 pDr w1 fun w2 =>
 pA Tryz.prog (oNil x0) fun x9 =>
 pA Tryz.prog (oFld 79 x9 2) fun x10 =>
 pL Tryz.prog (oLoad 3 x10) w2 fun x11 =>
 pA Tryz.prog (oNil x0) fun x13 =>
 pA Tryz.prog (oFld 79 x13 3) fun x14 =>
 pL Tryz.prog (oLoad 67 x14) w2 fun x15 =>
 pL Tryz.prog (oLoad 48 x3) w2 fun x17 =>
 (pN Tryz.prog (oBuild 100 [(0, x11), (1, x15)]) w2 fun x16 w3 =>
 ((Sem.run Tryz.prog (oLoad 48 x3) w3 = .ok (.value x17) w3) ∧ True) ∧ ((pN Tryz.prog (oCall 92 [x16, x17]) w3 fun x18 w4 =>
 (True) ∧ (pA Tryz.prog (oExt x18 0) fun x19 =>
 pA Tryz.prog (oExt x18 1) fun x20 =>
 pN Tryz.prog (oAlloc 100) w4 fun x4 w5 =>
 (True) ∧ (pN Tryz.prog (oStore 100 x4 x19) w5 fun _ w6 =>
 (True) ∧ (pN Tryz.prog (oCall 15 [x20]) w6 fun x22 w7 =>
 pN Tryz.prog (oBin .neq 3 (.tmp 22) (.const (.int .i64 0)) x22 (.int .i64 0)) w7 fun x23 w8 =>
 pIf x23
 (pN Tryz.prog (oNil x0) w8 fun x25 w9 =>
 pN Tryz.prog (oFld 79 x25 6) w9 fun x26 w10 =>
 pN Tryz.prog (oStore 4 x26 (.bool true)) w10 fun _ w11 =>
 Q (.tuple #[]) w11)
 (pDr w8 fun w12 =>
 pA Tryz.prog (oFld 100 x4 0) fun x29 =>
 pL Tryz.prog (oLoad 3 x29) w12 fun x30 =>
 pA Tryz.prog (oFld 100 x4 1) fun x31 =>
 pL Tryz.prog (oLoad 67 x31) w12 fun x32 =>
 pA Tryz.prog (oNil x0) fun x33 =>
 pA Tryz.prog (oFld 79 x33 2) fun x34 =>
 pN Tryz.prog (oStore 3 x34 x30) w12 fun _ w13 =>
 ((Sem.run Tryz.prog (oLoad 67 x31) w13 = .ok (.value x32) w13) ∧ True) ∧ (pA Tryz.prog (oNil x0) fun x35 =>
 pA Tryz.prog (oFld 79 x35 3) fun x36 =>
 pN Tryz.prog (oStore 67 x36 x32) w13 fun _ w14 =>
 (True) ∧ (pN Tryz.prog (oFld 48 x3 2) w14 fun x37 w15 =>
 pN Tryz.prog (oLoad 3 x37) w15 fun x38 w16 =>
 pN Tryz.prog (oBi .max #[3, 3] 3 [true, false] [(.int .i64 1), x38]) w16 fun x39 w17 =>
 ∃ (L7 : Value → World → Prop) (m7 : Value → World → Nat),
 L7 (.int .i64 0) w17 ∧
 ∀ (_k7 : Env) (v41l7 : Value) (w18 : World), L7 v41l7 w18 →
 pN Tryz.prog (oBin .lss 3 (.tmp 41) (.tmp 40) v41l7 x39) w18 fun x42 w19 =>
 pIf x42
 (∃ I11 : World → Prop,
 (pN Tryz.prog (oFld 48 x3 0) w19 fun x43 w20 =>
 pN Tryz.prog (oLoad 3 x43) w20 fun x44 w21 =>
 pN Tryz.prog (oBin .eql 3 (.tmp 44) (.const (.int .i64 1)) x44 (.int .i64 1)) w21 fun x45 w22 =>
 pIf x45
 (pDr w22 fun w23 =>
 pA Tryz.prog (oNil x0) fun x48 =>
 pA Tryz.prog (oFld 79 x48 4) fun x49 =>
 pL Tryz.prog (oLoad 30 x49) w23 fun x50 =>
 pA Tryz.prog (oFld 48 x3 1) fun x51 =>
 pL Tryz.prog (oLoad 5 x51) w23 fun x52 =>
 pN Tryz.prog (oBs 30 1 [(0, x52)]) w23 fun x53 w24 =>
 ((Sem.run Tryz.prog (oLoad 30 x49) w24 = .ok (.value x50) w24) ∧ True) ∧ (pN Tryz.prog (oBi .append #[30, 30] 30 [false, false] [x50, x53]) w24 fun x54 w25 =>
 (True) ∧ (pA Tryz.prog (oNil x0) fun x55 =>
 pA Tryz.prog (oFld 79 x55 4) fun x56 =>
 pN Tryz.prog (oStore 30 x56 x54) w25 fun _ w26 =>
 (True) ∧ (I11 w26))))
 (pDr w22 fun w27 =>
 pA Tryz.prog (oNil x0) fun x59 =>
 pA Tryz.prog (oFld 79 x59 4) fun x60 =>
 pL Tryz.prog (oLoad 30 x60) w27 fun x61 =>
 pA Tryz.prog (oNil x0) fun x64 =>
 pA Tryz.prog (oFld 79 x64 3) fun x65 =>
 pA Tryz.prog (oIdx 67 x65 (.int .i64 0)) fun x66 =>
 pL Tryz.prog (oLoad 3 x66) w27 fun x67 =>
 pN Tryz.prog (oCall 132 [x0, x67]) w27 fun x68 w28 =>
 ((Sem.run Tryz.prog (oLoad 30 x60) w28 = .ok (.value x61) w28) ∧ True) ∧ (pL Tryz.prog (oConv 3 5 x68) w28 fun x69 =>
 pN Tryz.prog (oBs 30 1 [(0, x69)]) w28 fun x70 w29 =>
 ((Sem.run Tryz.prog (oLoad 30 x60) w29 = .ok (.value x61) w29) ∧ True) ∧ (pN Tryz.prog (oBi .append #[30, 30] 30 [false, false] [x61, x70]) w29 fun x71 w30 =>
 (True) ∧ (pA Tryz.prog (oNil x0) fun x72 =>
 pA Tryz.prog (oFld 79 x72 4) fun x73 =>
 pN Tryz.prog (oStore 30 x73 x71) w30 fun _ w31 =>
 (True) ∧ (I11 w31)))))) ∧
 ∀ (_j11 : Env) (w32 : World), I11 w32 →
 pN Tryz.prog (oBin .add 3 (.tmp 41) (.const (.int .i64 1)) v41l7 (.int .i64 1)) w32 fun x74 w33 =>
 (L7 x74 w33 ∧ m7 x74 w33 < m7 v41l7 w18))
 (pDr w19 fun w34 =>
 pA Tryz.prog (oFld 48 x3 0) fun x75 =>
 pL Tryz.prog (oLoad 3 x75) w34 fun x76 =>
 pA Tryz.prog (oBin .eql 3 (.tmp 76) (.const (.int .i64 2)) x76 (.int .i64 2)) fun x77 =>
 gA (gB x77 true) (pA Tryz.prog (oFld 48 x3 3)) fun x79 =>
 gA (gB x77 true) (pL Tryz.prog (oLoad 3 x79) w34) fun x80 =>
 gA (gB x77 true) (pA Tryz.prog (oMv x0)) fun x81 =>
 gA (gB x77 true) (pA Tryz.prog (oNil x81)) fun x82 =>
 gA (gB x77 true) (pA Tryz.prog (oFld 79 x82 4)) fun x83 =>
 gA (gB x77 true) (pL Tryz.prog (oLoad 30 x83) w34) fun x84 =>
 gA (gB x77 true) (pA Tryz.prog (oBi .len #[30] 3 [false] [x84])) fun x85 =>
 gA (gB x77 true) (pA Tryz.prog (oMv x39)) fun x86 =>
 gA (gB x77 true) (pA Tryz.prog (oBin .sub 3 (.tmp 85) (.tmp 86) x85 x86)) fun x87 =>
 gA (gB x77 true) (pA Tryz.prog (oBin .gtr 3 (.tmp 80) (.tmp 87) x80 x87)) fun x88 =>
 pA Tryz.prog (oPick x77 x88 (.bool false)) fun x89 =>
 pIf x89
 (pN Tryz.prog (oNil x0) w34 fun x91 w35 =>
 pN Tryz.prog (oFld 79 x91 6) w35 fun x92 w36 =>
 pN Tryz.prog (oStore 4 x92 (.bool true)) w36 fun _ w37 =>
 Q (.tuple #[]) w37)
 (Q (.tuple #[]) w34))))))))) ∧ (pN Tryz.prog (oAlloc 100) w3 fun x4 w38 =>
 ((Sem.run Tryz.prog (oLoad 48 x3) w38 = .ok (.value x17) w38) ∧ True) ∧ (pN Tryz.prog (oCall 92 [x16, x17]) w38 fun x18 w39 =>
 (True) ∧ (pA Tryz.prog (oExt x18 0) fun x19 =>
 pA Tryz.prog (oExt x18 1) fun x20 =>
 pN Tryz.prog (oStore 100 x4 x19) w39 fun _ w40 =>
 (True) ∧ (pN Tryz.prog (oCall 15 [x20]) w40 fun x22 w41 =>
 pN Tryz.prog (oBin .neq 3 (.tmp 22) (.const (.int .i64 0)) x22 (.int .i64 0)) w41 fun x23 w42 =>
 pIf x23
 (pN Tryz.prog (oNil x0) w42 fun x25 w43 =>
 pN Tryz.prog (oFld 79 x25 6) w43 fun x26 w44 =>
 pN Tryz.prog (oStore 4 x26 (.bool true)) w44 fun _ w45 =>
 Q (.tuple #[]) w45)
 (pDr w42 fun w46 =>
 pA Tryz.prog (oFld 100 x4 0) fun x29 =>
 pL Tryz.prog (oLoad 3 x29) w46 fun x30 =>
 pA Tryz.prog (oFld 100 x4 1) fun x31 =>
 pL Tryz.prog (oLoad 67 x31) w46 fun x32 =>
 pA Tryz.prog (oNil x0) fun x33 =>
 pA Tryz.prog (oFld 79 x33 2) fun x34 =>
 pN Tryz.prog (oStore 3 x34 x30) w46 fun _ w47 =>
 ((Sem.run Tryz.prog (oLoad 67 x31) w47 = .ok (.value x32) w47) ∧ True) ∧ (pA Tryz.prog (oNil x0) fun x35 =>
 pA Tryz.prog (oFld 79 x35 3) fun x36 =>
 pN Tryz.prog (oStore 67 x36 x32) w47 fun _ w48 =>
 (True) ∧ (pN Tryz.prog (oFld 48 x3 2) w48 fun x37 w49 =>
 pN Tryz.prog (oLoad 3 x37) w49 fun x38 w50 =>
 pN Tryz.prog (oBi .max #[3, 3] 3 [true, false] [(.int .i64 1), x38]) w50 fun x39 w51 =>
 ∃ (L7 : Value → World → Prop) (m7 : Value → World → Nat),
 L7 (.int .i64 0) w51 ∧
 ∀ (_k7 : Env) (v41l7 : Value) (w52 : World), L7 v41l7 w52 →
 pN Tryz.prog (oBin .lss 3 (.tmp 41) (.tmp 40) v41l7 x39) w52 fun x42 w53 =>
 pIf x42
 (∃ I11 : World → Prop,
 (pN Tryz.prog (oFld 48 x3 0) w53 fun x43 w54 =>
 pN Tryz.prog (oLoad 3 x43) w54 fun x44 w55 =>
 pN Tryz.prog (oBin .eql 3 (.tmp 44) (.const (.int .i64 1)) x44 (.int .i64 1)) w55 fun x45 w56 =>
 pIf x45
 (pDr w56 fun w57 =>
 pA Tryz.prog (oNil x0) fun x48 =>
 pA Tryz.prog (oFld 79 x48 4) fun x49 =>
 pL Tryz.prog (oLoad 30 x49) w57 fun x50 =>
 pA Tryz.prog (oFld 48 x3 1) fun x51 =>
 pL Tryz.prog (oLoad 5 x51) w57 fun x52 =>
 pN Tryz.prog (oBs 30 1 [(0, x52)]) w57 fun x53 w58 =>
 ((Sem.run Tryz.prog (oLoad 30 x49) w58 = .ok (.value x50) w58) ∧ True) ∧ (pN Tryz.prog (oBi .append #[30, 30] 30 [false, false] [x50, x53]) w58 fun x54 w59 =>
 (True) ∧ (pA Tryz.prog (oNil x0) fun x55 =>
 pA Tryz.prog (oFld 79 x55 4) fun x56 =>
 pN Tryz.prog (oStore 30 x56 x54) w59 fun _ w60 =>
 (True) ∧ (I11 w60))))
 (pDr w56 fun w61 =>
 pA Tryz.prog (oNil x0) fun x59 =>
 pA Tryz.prog (oFld 79 x59 4) fun x60 =>
 pL Tryz.prog (oLoad 30 x60) w61 fun x61 =>
 pA Tryz.prog (oNil x0) fun x64 =>
 pA Tryz.prog (oFld 79 x64 3) fun x65 =>
 pA Tryz.prog (oIdx 67 x65 (.int .i64 0)) fun x66 =>
 pL Tryz.prog (oLoad 3 x66) w61 fun x67 =>
 pN Tryz.prog (oCall 132 [x0, x67]) w61 fun x68 w62 =>
 ((Sem.run Tryz.prog (oLoad 30 x60) w62 = .ok (.value x61) w62) ∧ True) ∧ (pL Tryz.prog (oConv 3 5 x68) w62 fun x69 =>
 pN Tryz.prog (oBs 30 1 [(0, x69)]) w62 fun x70 w63 =>
 ((Sem.run Tryz.prog (oLoad 30 x60) w63 = .ok (.value x61) w63) ∧ True) ∧ (pN Tryz.prog (oBi .append #[30, 30] 30 [false, false] [x61, x70]) w63 fun x71 w64 =>
 (True) ∧ (pA Tryz.prog (oNil x0) fun x72 =>
 pA Tryz.prog (oFld 79 x72 4) fun x73 =>
 pN Tryz.prog (oStore 30 x73 x71) w64 fun _ w65 =>
 (True) ∧ (I11 w65)))))) ∧
 ∀ (_j11 : Env) (w66 : World), I11 w66 →
 pN Tryz.prog (oBin .add 3 (.tmp 41) (.const (.int .i64 1)) v41l7 (.int .i64 1)) w66 fun x74 w67 =>
 (L7 x74 w67 ∧ m7 x74 w67 < m7 v41l7 w52))
 (pDr w53 fun w68 =>
 pA Tryz.prog (oFld 48 x3 0) fun x75 =>
 pL Tryz.prog (oLoad 3 x75) w68 fun x76 =>
 pA Tryz.prog (oBin .eql 3 (.tmp 76) (.const (.int .i64 2)) x76 (.int .i64 2)) fun x77 =>
 gA (gB x77 true) (pA Tryz.prog (oFld 48 x3 3)) fun x79 =>
 gA (gB x77 true) (pL Tryz.prog (oLoad 3 x79) w68) fun x80 =>
 gA (gB x77 true) (pA Tryz.prog (oMv x0)) fun x81 =>
 gA (gB x77 true) (pA Tryz.prog (oNil x81)) fun x82 =>
 gA (gB x77 true) (pA Tryz.prog (oFld 79 x82 4)) fun x83 =>
 gA (gB x77 true) (pL Tryz.prog (oLoad 30 x83) w68) fun x84 =>
 gA (gB x77 true) (pA Tryz.prog (oBi .len #[30] 3 [false] [x84])) fun x85 =>
 gA (gB x77 true) (pA Tryz.prog (oMv x39)) fun x86 =>
 gA (gB x77 true) (pA Tryz.prog (oBin .sub 3 (.tmp 85) (.tmp 86) x85 x86)) fun x87 =>
 gA (gB x77 true) (pA Tryz.prog (oBin .gtr 3 (.tmp 80) (.tmp 87) x80 x87)) fun x88 =>
 pA Tryz.prog (oPick x77 x88 (.bool false)) fun x89 =>
 pIf x89
 (pN Tryz.prog (oNil x0) w68 fun x91 w69 =>
 pN Tryz.prog (oFld 79 x91 6) w69 fun x92 w70 =>
 pN Tryz.prog (oStore 4 x92 (.bool true)) w70 fun _ w71 =>
 Q (.tuple #[]) w71)
 (Q (.tuple #[]) w68))))))))))) ∧ (pN Tryz.prog (oAlloc 100) w2 fun x4 w72 =>
 ((Sem.run Tryz.prog (oLoad 48 x3) w72 = .ok (.value x17) w72) ∧ (Sem.run Tryz.prog (oLoad 67 x14) w72 = .ok (.value x15) w72) ∧ (Sem.run Tryz.prog (oLoad 3 x10) w72 = .ok (.value x11) w72) ∧ True) ∧ (pN Tryz.prog (oBuild 100 [(0, x11), (1, x15)]) w72 fun x16 w73 =>
 ((Sem.run Tryz.prog (oLoad 48 x3) w73 = .ok (.value x17) w73) ∧ True) ∧ (pN Tryz.prog (oCall 92 [x16, x17]) w73 fun x18 w74 =>
 (True) ∧ (pA Tryz.prog (oExt x18 0) fun x19 =>
 pA Tryz.prog (oExt x18 1) fun x20 =>
 pN Tryz.prog (oStore 100 x4 x19) w74 fun _ w75 =>
 (True) ∧ (pN Tryz.prog (oCall 15 [x20]) w75 fun x22 w76 =>
 pN Tryz.prog (oBin .neq 3 (.tmp 22) (.const (.int .i64 0)) x22 (.int .i64 0)) w76 fun x23 w77 =>
 pIf x23
 (pN Tryz.prog (oNil x0) w77 fun x25 w78 =>
 pN Tryz.prog (oFld 79 x25 6) w78 fun x26 w79 =>
 pN Tryz.prog (oStore 4 x26 (.bool true)) w79 fun _ w80 =>
 Q (.tuple #[]) w80)
 (pDr w77 fun w81 =>
 pA Tryz.prog (oFld 100 x4 0) fun x29 =>
 pL Tryz.prog (oLoad 3 x29) w81 fun x30 =>
 pA Tryz.prog (oFld 100 x4 1) fun x31 =>
 pL Tryz.prog (oLoad 67 x31) w81 fun x32 =>
 pA Tryz.prog (oNil x0) fun x33 =>
 pA Tryz.prog (oFld 79 x33 2) fun x34 =>
 pN Tryz.prog (oStore 3 x34 x30) w81 fun _ w82 =>
 ((Sem.run Tryz.prog (oLoad 67 x31) w82 = .ok (.value x32) w82) ∧ True) ∧ (pA Tryz.prog (oNil x0) fun x35 =>
 pA Tryz.prog (oFld 79 x35 3) fun x36 =>
 pN Tryz.prog (oStore 67 x36 x32) w82 fun _ w83 =>
 (True) ∧ (pN Tryz.prog (oFld 48 x3 2) w83 fun x37 w84 =>
 pN Tryz.prog (oLoad 3 x37) w84 fun x38 w85 =>
 pN Tryz.prog (oBi .max #[3, 3] 3 [true, false] [(.int .i64 1), x38]) w85 fun x39 w86 =>
 ∃ (L7 : Value → World → Prop) (m7 : Value → World → Nat),
 L7 (.int .i64 0) w86 ∧
 ∀ (_k7 : Env) (v41l7 : Value) (w87 : World), L7 v41l7 w87 →
 pN Tryz.prog (oBin .lss 3 (.tmp 41) (.tmp 40) v41l7 x39) w87 fun x42 w88 =>
 pIf x42
 (∃ I11 : World → Prop,
 (pN Tryz.prog (oFld 48 x3 0) w88 fun x43 w89 =>
 pN Tryz.prog (oLoad 3 x43) w89 fun x44 w90 =>
 pN Tryz.prog (oBin .eql 3 (.tmp 44) (.const (.int .i64 1)) x44 (.int .i64 1)) w90 fun x45 w91 =>
 pIf x45
 (pDr w91 fun w92 =>
 pA Tryz.prog (oNil x0) fun x48 =>
 pA Tryz.prog (oFld 79 x48 4) fun x49 =>
 pL Tryz.prog (oLoad 30 x49) w92 fun x50 =>
 pA Tryz.prog (oFld 48 x3 1) fun x51 =>
 pL Tryz.prog (oLoad 5 x51) w92 fun x52 =>
 pN Tryz.prog (oBs 30 1 [(0, x52)]) w92 fun x53 w93 =>
 ((Sem.run Tryz.prog (oLoad 30 x49) w93 = .ok (.value x50) w93) ∧ True) ∧ (pN Tryz.prog (oBi .append #[30, 30] 30 [false, false] [x50, x53]) w93 fun x54 w94 =>
 (True) ∧ (pA Tryz.prog (oNil x0) fun x55 =>
 pA Tryz.prog (oFld 79 x55 4) fun x56 =>
 pN Tryz.prog (oStore 30 x56 x54) w94 fun _ w95 =>
 (True) ∧ (I11 w95))))
 (pDr w91 fun w96 =>
 pA Tryz.prog (oNil x0) fun x59 =>
 pA Tryz.prog (oFld 79 x59 4) fun x60 =>
 pL Tryz.prog (oLoad 30 x60) w96 fun x61 =>
 pA Tryz.prog (oNil x0) fun x64 =>
 pA Tryz.prog (oFld 79 x64 3) fun x65 =>
 pA Tryz.prog (oIdx 67 x65 (.int .i64 0)) fun x66 =>
 pL Tryz.prog (oLoad 3 x66) w96 fun x67 =>
 pN Tryz.prog (oCall 132 [x0, x67]) w96 fun x68 w97 =>
 ((Sem.run Tryz.prog (oLoad 30 x60) w97 = .ok (.value x61) w97) ∧ True) ∧ (pL Tryz.prog (oConv 3 5 x68) w97 fun x69 =>
 pN Tryz.prog (oBs 30 1 [(0, x69)]) w97 fun x70 w98 =>
 ((Sem.run Tryz.prog (oLoad 30 x60) w98 = .ok (.value x61) w98) ∧ True) ∧ (pN Tryz.prog (oBi .append #[30, 30] 30 [false, false] [x61, x70]) w98 fun x71 w99 =>
 (True) ∧ (pA Tryz.prog (oNil x0) fun x72 =>
 pA Tryz.prog (oFld 79 x72 4) fun x73 =>
 pN Tryz.prog (oStore 30 x73 x71) w99 fun _ w100 =>
 (True) ∧ (I11 w100)))))) ∧
 ∀ (_j11 : Env) (w101 : World), I11 w101 →
 pN Tryz.prog (oBin .add 3 (.tmp 41) (.const (.int .i64 1)) v41l7 (.int .i64 1)) w101 fun x74 w102 =>
 (L7 x74 w102 ∧ m7 x74 w102 < m7 v41l7 w87))
 (pDr w88 fun w103 =>
 pA Tryz.prog (oFld 48 x3 0) fun x75 =>
 pL Tryz.prog (oLoad 3 x75) w103 fun x76 =>
 pA Tryz.prog (oBin .eql 3 (.tmp 76) (.const (.int .i64 2)) x76 (.int .i64 2)) fun x77 =>
 gA (gB x77 true) (pA Tryz.prog (oFld 48 x3 3)) fun x79 =>
 gA (gB x77 true) (pL Tryz.prog (oLoad 3 x79) w103) fun x80 =>
 gA (gB x77 true) (pA Tryz.prog (oMv x0)) fun x81 =>
 gA (gB x77 true) (pA Tryz.prog (oNil x81)) fun x82 =>
 gA (gB x77 true) (pA Tryz.prog (oFld 79 x82 4)) fun x83 =>
 gA (gB x77 true) (pL Tryz.prog (oLoad 30 x83) w103) fun x84 =>
 gA (gB x77 true) (pA Tryz.prog (oBi .len #[30] 3 [false] [x84])) fun x85 =>
 gA (gB x77 true) (pA Tryz.prog (oMv x39)) fun x86 =>
 gA (gB x77 true) (pA Tryz.prog (oBin .sub 3 (.tmp 85) (.tmp 86) x85 x86)) fun x87 =>
 gA (gB x77 true) (pA Tryz.prog (oBin .gtr 3 (.tmp 80) (.tmp 87) x80 x87)) fun x88 =>
 pA Tryz.prog (oPick x77 x88 (.bool false)) fun x89 =>
 pIf x89
 (pN Tryz.prog (oNil x0) w103 fun x91 w104 =>
 pN Tryz.prog (oFld 79 x91 6) w104 fun x92 w105 =>
 pN Tryz.prog (oStore 4 x92 (.bool true)) w105 fun _ w106 =>
 Q (.tuple #[]) w106)
 (Q (.tuple #[]) w103))))))))))
theorem pithlaw14_Reader_apply.calls [Pan] {x0 x1 : Value} {w : World} {Q : Value → World → Prop} (h : pithlaw14_Reader_apply.F x0 x1 w Q) : Calls Tryz.prog 89 #[x0, x1] w (retP Q) := calls_lift mixed pithlaw14_Reader_apply.H [x0, x1] Tryz.func89 (by kernel_rfl) (by kernel_rfl) h

def pithlaw14_Reader_bit.H : Hints := { cut := fun | 10 => some ([11], 281406257235968) | _ => none, loop := fun | 2 => ([2, 17], 134087684) | _ => ([], 0), order := fun  | _ => [] }
def pithlaw14_Reader_bit.F [Pan] (x0 x1 x2 x3 : Value) (w : World) (Q : Value → World → Prop) : Prop :=
 pN Tryz.prog (oBi .len #[217] 3 [false] [x3]) w fun x16 w1 =>
 ∃ (L2 : Value → Value → World → Prop) (m2 : Value → Value → World → Nat),
 L2 x2 (.int .i64 0) w1 ∧
 ∀ (_k2 : Env) (set2l2 : Value) (v17l2 : Value) (w2 : World), L2 set2l2 v17l2 w2 →
 pN Tryz.prog (oBin .lss 3 (.tmp 17) (.tmp 16) v17l2 x16) w2 fun x18 w3 =>
 pIf x18
 (pN Tryz.prog (oIdx 217 x3 v17l2) w3 fun x19 w4 =>
 pN Tryz.prog (oLoad 3 x19) w4 fun x20 w5 =>
 pN Tryz.prog (oBin .add 9 (.tmp 21) (.const (.string ⟨#[32]⟩)) set2l2 (.string ⟨#[32]⟩)) w5 fun x22 w6 =>
 pN Tryz.prog (oCall 150 [x20]) w6 fun x24 w7 =>
 pN Tryz.prog (oBin .add 9 (.tmp 22) (.tmp 24) x22 x24) w7 fun x25 w8 =>
 pN Tryz.prog (oBin .add 3 (.tmp 17) (.const (.int .i64 1)) v17l2 (.int .i64 1)) w8 fun x26 w9 =>
 (L2 x25 x26 w9 ∧ m2 x25 x26 w9 < m2 set2l2 v17l2 w2))
 (pN Tryz.prog (oNil x0) w3 fun x29 w10 =>
 pN Tryz.prog (oFld 79 x29 5) w10 fun x30 w11 =>
 pN Tryz.prog (oLoad 77 x30) w11 fun x31 w12 =>
 pN Tryz.prog (oLook 77 x31 set2l2 true) w12 fun x33 w13 =>
 pN Tryz.prog (oExt x33 0) w13 fun x34 w14 =>
 pN Tryz.prog (oExt x33 1) w14 fun x35 w15 =>
 ∃ I10 : Value → World → Prop,
 (pN Tryz.prog (oUn .not x35) w15 fun x37 w16 =>
 pIf x37
 (pN Tryz.prog (oCall 141 [(.int .i64 1024)]) w16 fun x39 w17 =>
 pN Tryz.prog (oExt x39 0) w17 fun x40 w18 =>
 pN Tryz.prog (oExt x39 1) w18 fun _ w19 =>
 pN Tryz.prog (oNil x0) w19 fun x43 w20 =>
 pN Tryz.prog (oFld 79 x43 5) w20 fun x44 w21 =>
 pN Tryz.prog (oLoad 77 x44) w21 fun x45 w22 =>
 pN Tryz.prog (oMapUp 77 x45 set2l2 x40) w22 fun _ w23 =>
 I10 x40 w23)
 (I10 x34 w16)) ∧
 ∀ (_j10 : Env) (s11c10 : Value) (w24 : World), I10 s11c10 w24 →
 pN Tryz.prog (oNil x0) w24 fun x49 w25 =>
 pN Tryz.prog (oFld 79 x49 6) w25 fun x50 w26 =>
 pN Tryz.prog (oLoad 4 x50) w26 fun x51 w27 =>
 pGd (gB x51 false) (pN Tryz.prog (oMv s11c10) w27) w27 fun x53 w28 =>
 pGd (gB x51 false) (pN Tryz.prog (oBin .eql 137 (.tmp 53) (.const (.pointer none)) x53 (.pointer none)) w28) w28 fun x54 w29 =>
 pN Tryz.prog (oPick x51 (.bool true) x54) w29 fun x55 w30 =>
 pIf x55
 (pN Tryz.prog (oNil x0) w30 fun x57 w31 =>
 pN Tryz.prog (oFld 79 x57 6) w31 fun x58 w32 =>
 pN Tryz.prog (oStore 4 x58 (.bool true)) w32 fun _ w33 =>
 Q (.int .i64 0) w33)
 (pN Tryz.prog (oNil x0) w30 fun x61 w34 =>
 pN Tryz.prog (oFld 79 x61 0) w34 fun x62 w35 =>
 pN Tryz.prog (oLoad 76 x62) w35 fun x63 w36 =>
 pN Tryz.prog (oCall 163 [x63, s11c10, x1]) w36 fun x66 w37 =>
 pN Tryz.prog (oExt x66 0) w37 fun x67 w38 =>
 pN Tryz.prog (oExt x66 1) w38 fun x68 w39 =>
 pN Tryz.prog (oNil x0) w39 fun x71 w40 =>
 pN Tryz.prog (oFld 79 x71 6) w40 fun x72 w41 =>
 pN Tryz.prog (oLoad 4 x72) w41 fun x73 w42 =>
 pGd (gB x73 false) (pN Tryz.prog (oMv x68) w42) w42 fun x75 w43 =>
 pGd (gB x73 false) (pN Tryz.prog (oCall 15 [x75]) w43) w43 fun x76 w44 =>
 pGd (gB x73 false) (pN Tryz.prog (oBin .neq 3 (.tmp 76) (.const (.int .i64 0)) x76 (.int .i64 0)) w44) w44 fun x77 w45 =>
 pN Tryz.prog (oPick x73 (.bool true) x77) w45 fun x78 w46 =>
 pN Tryz.prog (oNil x0) w46 fun x79 w47 =>
 pN Tryz.prog (oFld 79 x79 6) w47 fun x80 w48 =>
 pN Tryz.prog (oStore 4 x80 x78) w48 fun _ w49 =>
 Q x67 w49))
theorem pithlaw14_Reader_bit.calls [Pan] {x0 x1 x2 x3 : Value} {w : World} {Q : Value → World → Prop} (h : pithlaw14_Reader_bit.F x0 x1 x2 x3 w Q) : Calls Tryz.prog 128 #[x0, x1, x2, x3] w (retP Q) := calls_lift mixed pithlaw14_Reader_bit.H [x0, x1, x2, x3] Tryz.func128 (by kernel_rfl) (by kernel_rfl) h

def pithlaw14_Reader_literal.H : Hints := { cut := fun | 6 => some ([4, 6], 4835703206400922660898640) | 11 => some ([9], 145268109580462719488) | _ => none, loop := fun | 5 => ([4, 6, 7], 4835703273954917071456208) | _ => ([], 0), order := fun | 1 => [(0, 0), (1, 1), (2, 3), (3, 7), (4, 15), (5, 31), (6, 63), (7, 127), (8, 255), (9, 511), (10, 1023), (11, 2047), (12, 4095), (13, 8191), (14, 16383), (15, 32767), (16, 65535), (17, 131071), (18, 262143), (19, 524287), (21, 1048575), (22, 3145727), (23, 7340031), (24, 15728639), (25, 32505855), (26, 66060287), (20, 133169151), (27, 134217727), (28, 268435455), (29, 536870911)] | _ => [] }
def pithlaw14_Reader_literal.F [Pan] (x0 : Value) (w : World) (Q : Value → World → Prop) : Prop :=
 pDr w fun w1 =>
 pA Tryz.prog (oNil x0) fun x12 =>
 pA Tryz.prog (oFld 79 x12 4) fun x13 =>
 pL Tryz.prog (oLoad 30 x13) w1 fun x14 =>
 pA Tryz.prog (oBi .len #[30] 3 [false] [x14]) fun x15 =>
 pA Tryz.prog (oNil x0) fun x17 =>
 pA Tryz.prog (oFld 79 x17 1) fun x18 =>
 pA Tryz.prog (oFld 23 x18 1) fun x19 =>
 pL Tryz.prog (oLoad 3 x19) w1 fun x20 =>
 pA Tryz.prog (oBin .shl 3 (.const (.int .i64 1)) (.tmp 20) (.int .i64 1) x20) fun x21 =>
 pA Tryz.prog (oBin .sub 3 (.tmp 21) (.const (.int .i64 1)) x21 (.int .i64 1)) fun x22 =>
 pA Tryz.prog (oBin .and 3 (.tmp 15) (.tmp 22) x15 x22) fun x23 =>
 pA Tryz.prog (oNil x0) fun x25 =>
 pA Tryz.prog (oFld 79 x25 1) fun x26 =>
 pA Tryz.prog (oFld 23 x26 0) fun x27 =>
 pL Tryz.prog (oLoad 3 x27) w1 fun x28 =>
 pA Tryz.prog (oBin .shl 3 (.tmp 23) (.tmp 28) x23 x28) fun x29 =>
 pA Tryz.prog (oNil x0) fun x33 =>
 pA Tryz.prog (oFld 79 x33 1) fun x34 =>
 pA Tryz.prog (oFld 23 x34 0) fun x35 =>
 pL Tryz.prog (oLoad 3 x35) w1 fun x36 =>
 pA Tryz.prog (oBin .sub 3 (.const (.int .i64 8)) (.tmp 36) (.int .i64 8) x36) fun x37 =>
 pN Tryz.prog (oCall 132 [x0, (.int .i64 1)]) w1 fun x31 w2 =>
 ((Sem.run Tryz.prog (oLoad 3 x35) w2 = .ok (.value x36) w2) ∧ (Sem.run Tryz.prog (oLoad 3 x27) w2 = .ok (.value x28) w2) ∧ (Sem.run Tryz.prog (oLoad 3 x19) w2 = .ok (.value x20) w2) ∧ (Sem.run Tryz.prog (oLoad 30 x13) w2 = .ok (.value x14) w2) ∧ True) ∧ (pA Tryz.prog (oBin .shr 3 (.tmp 31) (.tmp 37) x31 x37) fun x38 =>
 pA Tryz.prog (oBin .add 3 (.tmp 29) (.tmp 38) x29 x38) fun x39 =>
 pN Tryz.prog (oNil x0) w2 fun x42 w3 =>
 pN Tryz.prog (oFld 79 x42 3) w3 fun x43 w4 =>
 pN Tryz.prog (oIdx 67 x43 (.int .i64 0)) w4 fun x44 w5 =>
 pN Tryz.prog (oLoad 3 x44) w5 fun x45 w6 =>
 pN Tryz.prog (oCall 132 [x0, x45]) w6 fun x46 w7 =>
 pN Tryz.prog (oNil x0) w7 fun x48 w8 =>
 pN Tryz.prog (oFld 79 x48 2) w8 fun x49 w9 =>
 pN Tryz.prog (oLoad 3 x49) w9 fun x50 w10 =>
 pN Tryz.prog (oBin .geq 3 (.tmp 50) (.const (.int .i64 7)) x50 (.int .i64 7)) w10 fun x51 w11 =>
 ∃ (L5 : Value → Value → Value → World → Prop) (m5 : Value → Value → Value → World → Nat),
 L5 (.int .i64 1) x51 (.int .i64 7) w11 ∧
 ∀ (_k5 : Env) (m4l5 : Value) (alike6l5 : Value) (i7l5 : Value) (w12 : World), L5 m4l5 alike6l5 i7l5 w12 →
 pN Tryz.prog (oBin .geq 3 (.tmp 52) (.const (.int .i64 0)) i7l5 (.int .i64 0)) w12 fun x53 w13 =>
 pIf x53
 (∃ I6 : Value → Value → World → Prop,
 (pN Tryz.prog (oBin .shr 3 (.tmp 56) (.tmp 57) x46 i7l5) w13 fun x58 w14 =>
 pN Tryz.prog (oBin .and 3 (.tmp 58) (.const (.int .i64 1)) x58 (.int .i64 1)) w14 fun x59 w15 =>
 ∃ I11 : Value → World → Prop,
 (pIf alike6l5
 (pN Tryz.prog (oBin .add 3 (.const (.int .i64 1)) (.tmp 62) (.int .i64 1) x59) w15 fun x63 w16 =>
 pN Tryz.prog (oBin .mul 3 (.const (.int .i64 256)) (.tmp 63) (.int .i64 256) x63) w16 fun x64 w17 =>
 pN Tryz.prog (oBin .add 3 (.tmp 64) (.tmp 65) x64 m4l5) w17 fun x66 w18 =>
 I11 x66 w18)
 (I11 m4l5 w15)) ∧
 ∀ (_j11 : Env) (at9c11 : Value) (w19 : World), I11 at9c11 w19 →
 pN Tryz.prog (oBs 217 1 [(0, x39)]) w19 fun x70 w20 =>
 pN Tryz.prog (oCall 128 [x0, at9c11, (.string ⟨#[76, 105, 116, 101, 114, 97, 108]⟩), x70]) w20 fun x71 w21 =>
 pGd (gB alike6l5 true) (pN Tryz.prog (oMv x71) w21) w21 fun x74 w22 =>
 pGd (gB alike6l5 true) (pN Tryz.prog (oMv x59) w22) w22 fun x75 w23 =>
 pGd (gB alike6l5 true) (pN Tryz.prog (oBin .eql 3 (.tmp 74) (.tmp 75) x74 x75) w23) w23 fun x76 w24 =>
 pN Tryz.prog (oPick alike6l5 x76 (.bool false)) w24 fun x77 w25 =>
 pN Tryz.prog (oBin .mul 3 (.const (.int .i64 2)) (.tmp 78) (.int .i64 2) m4l5) w25 fun x79 w26 =>
 pN Tryz.prog (oBin .add 3 (.tmp 79) (.tmp 80) x79 x71) w26 fun x81 w27 =>
 I6 x81 x77 w27) ∧
 ∀ (_j6 : Env) (m4c6 : Value) (alike6c6 : Value) (w28 : World), I6 m4c6 alike6c6 w28 →
 pN Tryz.prog (oBin .sub 3 (.tmp 54) (.const (.int .i64 1)) i7l5 (.int .i64 1)) w28 fun x55 w29 =>
 (L5 m4c6 alike6c6 x55 w29 ∧ m5 m4c6 alike6c6 x55 w29 < m5 m4l5 alike6l5 i7l5 w12))
 (pN Tryz.prog (oConv 3 5 m4l5) w13 fun x83 w30 =>
 Q x83 w30))
theorem pithlaw14_Reader_literal.calls [Pan] {x0 : Value} {w : World} {Q : Value → World → Prop} (h : pithlaw14_Reader_literal.F x0 w Q) : Calls Tryz.prog 129 #[x0] w (retP Q) := calls_lift mixed pithlaw14_Reader_literal.H [x0] Tryz.func129 (by kernel_rfl) (by kernel_rfl) h

def pithlaw14_Reader_length.F [Pan] (x0 x1 x2 : Value) (w : World) (Q : Value → World → Prop) : Prop :=
 pN Tryz.prog (oBin .add 9 (.tmp 8) (.const (.string ⟨#[32, 111, 110, 101]⟩)) x1 (.string ⟨#[32, 111, 110, 101]⟩)) w fun x9 w1 =>
 pN Tryz.prog (oCall 128 [x0, (.int .i64 0), x9, (.slice none 0 0)]) w1 fun x10 w2 =>
 pN Tryz.prog (oBin .eql 3 (.tmp 10) (.const (.int .i64 0)) x10 (.int .i64 0)) w2 fun x11 w3 =>
 pIf x11
 (pN Tryz.prog (oBin .add 9 (.tmp 13) (.const (.string ⟨#[32, 108, 111, 119]⟩)) x1 (.string ⟨#[32, 108, 111, 119]⟩)) w3 fun x14 w4 =>
 pN Tryz.prog (oBs 217 1 [(0, x2)]) w4 fun x16 w5 =>
 pN Tryz.prog (oCall 164 [x0, (.int .i64 3), x14, x16]) w5 fun x17 w6 =>
 pN Tryz.prog (oBin .add 3 (.const (.int .i64 2)) (.tmp 17) (.int .i64 2) x17) w6 fun x18 w7 =>
 Q x18 w7)
 (pN Tryz.prog (oBin .add 9 (.tmp 20) (.const (.string ⟨#[32, 116, 119, 111]⟩)) x1 (.string ⟨#[32, 116, 119, 111]⟩)) w3 fun x21 w8 =>
 pN Tryz.prog (oCall 128 [x0, (.int .i64 0), x21, (.slice none 0 0)]) w8 fun x22 w9 =>
 pN Tryz.prog (oBin .eql 3 (.tmp 22) (.const (.int .i64 0)) x22 (.int .i64 0)) w9 fun x23 w10 =>
 pIf x23
 (pN Tryz.prog (oBin .add 9 (.tmp 25) (.const (.string ⟨#[32, 109, 105, 100]⟩)) x1 (.string ⟨#[32, 109, 105, 100]⟩)) w10 fun x26 w11 =>
 pN Tryz.prog (oBs 217 1 [(0, x2)]) w11 fun x28 w12 =>
 pN Tryz.prog (oCall 164 [x0, (.int .i64 3), x26, x28]) w12 fun x29 w13 =>
 pN Tryz.prog (oBin .add 3 (.const (.int .i64 10)) (.tmp 29) (.int .i64 10) x29) w13 fun x30 w14 =>
 Q x30 w14)
 (pN Tryz.prog (oBin .add 9 (.tmp 32) (.const (.string ⟨#[32, 104, 105, 103, 104]⟩)) x1 (.string ⟨#[32, 104, 105, 103, 104]⟩)) w10 fun x33 w15 =>
 pN Tryz.prog (oCall 164 [x0, (.int .i64 8), x33, (.slice none 0 0)]) w15 fun x34 w16 =>
 pN Tryz.prog (oBin .add 3 (.const (.int .i64 18)) (.tmp 34) (.int .i64 18) x34) w16 fun x35 w17 =>
 Q x35 w17))
theorem pithlaw14_Reader_length.calls [Pan] {x0 x1 x2 : Value} {w : World} {Q : Value → World → Prop} (h : pithlaw14_Reader_length.F x0 x1 x2 w Q) : Calls Tryz.prog 130 #[x0, x1, x2] w (retP Q) := calls_lift mixed .z [x0, x1, x2] Tryz.func130 (by kernel_rfl) (by kernel_rfl) h

def pithlaw14_Reader_distance.F [Pan] (x0 x1 : Value) (w : World) (Q : Value → World → Prop) : Prop :=
 pN Tryz.prog (oBin .sub 3 (.tmp 12) (.const (.int .i64 2)) x1 (.int .i64 2)) w fun x13 w1 =>
 pN Tryz.prog (oBi .min #[3, 3] 3 [false, true] [x13, (.int .i64 3)]) w1 fun x14 w2 =>
 pN Tryz.prog (oBs 217 1 [(0, x14)]) w2 fun x15 w3 =>
 pN Tryz.prog (oCall 164 [x0, (.int .i64 6), (.string ⟨#[83, 108, 111, 116]⟩), x15]) w3 fun x16 w4 =>
 pN Tryz.prog (oCall 146 [x16]) w4 fun x19 w5 =>
 pN Tryz.prog (oExt x19 0) w5 fun x20 w6 =>
 pN Tryz.prog (oExt x19 1) w6 fun x21 w7 =>
 pN Tryz.prog (oExt x19 2) w7 fun x22 w8 =>
 pN Tryz.prog (oCall 15 [x22]) w8 fun x24 w9 =>
 pN Tryz.prog (oBin .neq 3 (.tmp 24) (.const (.int .i64 0)) x24 (.int .i64 0)) w9 fun x25 w10 =>
 pGd (gB x25 false) (pN Tryz.prog (oMv x16) w10) w10 fun x27 w11 =>
 pGd (gB x25 false) (pN Tryz.prog (oBin .lss 3 (.tmp 27) (.const (.int .i64 4)) x27 (.int .i64 4)) w11) w11 fun x28 w12 =>
 pN Tryz.prog (oPick x25 (.bool true) x28) w12 fun x29 w13 =>
 pIf x29
 (pN Tryz.prog (oNil x0) w13 fun x32 w14 =>
 pN Tryz.prog (oFld 79 x32 6) w14 fun x33 w15 =>
 pN Tryz.prog (oLoad 4 x33) w15 fun x34 w16 =>
 pGd (gB x34 false) (pN Tryz.prog (oMv x22) w16) w16 fun x36 w17 =>
 pGd (gB x34 false) (pN Tryz.prog (oCall 15 [x36]) w17) w17 fun x37 w18 =>
 pGd (gB x34 false) (pN Tryz.prog (oBin .neq 3 (.tmp 37) (.const (.int .i64 0)) x37 (.int .i64 0)) w18) w18 fun x38 w19 =>
 pN Tryz.prog (oPick x34 (.bool true) x38) w19 fun x39 w20 =>
 pN Tryz.prog (oNil x0) w20 fun x40 w21 =>
 pN Tryz.prog (oFld 79 x40 6) w21 fun x41 w22 =>
 pN Tryz.prog (oStore 4 x41 x39) w22 fun _ w23 =>
 Q x20 w23)
 (pN Tryz.prog (oBin .lss 3 (.tmp 43) (.const (.int .i64 14)) x16 (.int .i64 14)) w13 fun x44 w24 =>
 pIf x44
 (pN Tryz.prog (oBs 217 1 [(0, x16)]) w24 fun x49 w25 =>
 pN Tryz.prog (oCall 165 [x0, x21, (.string ⟨#[82, 101, 115, 116]⟩), x49]) w25 fun x50 w26 =>
 pN Tryz.prog (oBin .add 3 (.tmp 45) (.tmp 50) x20 x50) w26 fun x51 w27 =>
 Q x51 w27)
 (pN Tryz.prog (oNil x0) w24 fun x53 w28 =>
 pN Tryz.prog (oFld 79 x53 6) w28 fun x54 w29 =>
 pN Tryz.prog (oLoad 4 x54) w29 fun x55 w30 =>
 pIf x55
 (Q (.int .i64 0) w30)
 (pN Tryz.prog (oNil x0) w30 fun x58 w31 =>
 pN Tryz.prog (oFld 79 x58 0) w31 fun x59 w32 =>
 pN Tryz.prog (oLoad 76 x59) w32 fun x60 w33 =>
 pN Tryz.prog (oBin .sub 3 (.tmp 61) (.const (.int .i64 4)) x21 (.int .i64 4)) w33 fun x62 w34 =>
 pN Tryz.prog (oCall 166 [x60, x62]) w34 fun x63 w35 =>
 pN Tryz.prog (oExt x63 0) w35 fun x64 w36 =>
 pN Tryz.prog (oExt x63 1) w36 fun x65 w37 =>
 pN Tryz.prog (oNil x0) w37 fun x68 w38 =>
 pN Tryz.prog (oFld 79 x68 6) w38 fun x69 w39 =>
 pN Tryz.prog (oLoad 4 x69) w39 fun x70 w40 =>
 pGd (gB x70 false) (pN Tryz.prog (oMv x65) w40) w40 fun x72 w41 =>
 pGd (gB x70 false) (pN Tryz.prog (oCall 15 [x72]) w41) w41 fun x73 w42 =>
 pGd (gB x70 false) (pN Tryz.prog (oBin .neq 3 (.tmp 73) (.const (.int .i64 0)) x73 (.int .i64 0)) w42) w42 fun x74 w43 =>
 pN Tryz.prog (oPick x70 (.bool true) x74) w43 fun x75 w44 =>
 pN Tryz.prog (oNil x0) w44 fun x76 w45 =>
 pN Tryz.prog (oFld 79 x76 6) w45 fun x77 w46 =>
 pN Tryz.prog (oStore 4 x77 x75) w46 fun _ w47 =>
 pN Tryz.prog (oConv 148 3 x64) w47 fun x80 w48 =>
 pN Tryz.prog (oBin .shl 3 (.tmp 80) (.const (.int .u64 4)) x80 (.int .u64 4)) w48 fun x81 w49 =>
 pN Tryz.prog (oBin .add 3 (.tmp 78) (.tmp 81) x20 x81) w49 fun x82 w50 =>
 pN Tryz.prog (oCall 165 [x0, (.int .i64 4), (.string ⟨#[65, 108, 105, 103, 110]⟩), (.slice none 0 0)]) w50 fun x84 w51 =>
 pN Tryz.prog (oBin .add 3 (.tmp 82) (.tmp 84) x82 x84) w51 fun x85 w52 =>
 Q x85 w52)))
theorem pithlaw14_Reader_distance.calls [Pan] {x0 x1 : Value} {w : World} {Q : Value → World → Prop} (h : pithlaw14_Reader_distance.F x0 x1 w Q) : Calls Tryz.prog 131 #[x0, x1] w (retP Q) := calls_lift mixed .z [x0, x1] Tryz.func131 (by kernel_rfl) (by kernel_rfl) h

def pithlaw14_Reader_last.H : Hints := { cut := fun  | _ => none, loop := fun  | _ => ([], 0), order := fun | 3 => [(0, 0), (1, 1), (2, 3), (3, 7), (4, 15), (5, 31), (6, 63), (7, 127), (8, 255), (9, 511), (10, 1023), (11, 2047), (12, 4095), (13, 8191), (14, 16383)] | _ => [] }
def pithlaw14_Reader_last.F [Pan] (x0 x1 : Value) (w : World) (Q : Value → World → Prop) : Prop :=
 pN Tryz.prog (oBin .lss 3 (.tmp 5) (.const (.int .i64 1)) x1 (.int .i64 1)) w fun x6 w1 =>
 pGd (gB x6 false) (pN Tryz.prog (oMv x1) w1) w1 fun x8 w2 =>
 pGd (gB x6 false) (pN Tryz.prog (oMv x0) w2) w2 fun x9 w3 =>
 pGd (gB x6 false) (pN Tryz.prog (oNil x9) w3) w3 fun x10 w4 =>
 pGd (gB x6 false) (pN Tryz.prog (oFld 79 x10 4) w4) w4 fun x11 w5 =>
 pGd (gB x6 false) (pN Tryz.prog (oLoad 30 x11) w5) w5 fun x12 w6 =>
 pGd (gB x6 false) (pN Tryz.prog (oBi .len #[30] 3 [false] [x12]) w6) w6 fun x13 w7 =>
 pGd (gB x6 false) (pN Tryz.prog (oBin .gtr 3 (.tmp 8) (.tmp 13) x8 x13) w7) w7 fun x14 w8 =>
 pN Tryz.prog (oPick x6 (.bool true) x14) w8 fun x15 w9 =>
 pIf x15
 (Q (.int .i64 0) w9)
 (pDr w9 fun w10 =>
 pA Tryz.prog (oNil x0) fun x17 =>
 pA Tryz.prog (oFld 79 x17 4) fun x18 =>
 pL Tryz.prog (oLoad 30 x18) w10 fun x19 =>
 pA Tryz.prog (oNil x0) fun x21 =>
 pA Tryz.prog (oFld 79 x21 4) fun x22 =>
 pL Tryz.prog (oLoad 30 x22) w10 fun x23 =>
 pA Tryz.prog (oBi .len #[30] 3 [false] [x23]) fun x24 =>
 pA Tryz.prog (oBin .sub 3 (.tmp 24) (.tmp 25) x24 x1) fun x26 =>
 pA Tryz.prog (oIdx 30 x19 x26) fun x27 =>
 pL Tryz.prog (oLoad 5 x27) w10 fun x28 =>
 pL Tryz.prog (oConv 5 3 x28) w10 fun x29 =>
 Q x29 w10)
theorem pithlaw14_Reader_last.calls [Pan] {x0 x1 : Value} {w : World} {Q : Value → World → Prop} (h : pithlaw14_Reader_last.F x0 x1 w Q) : Calls Tryz.prog 132 #[x0, x1] w (retP Q) := calls_lift mixed pithlaw14_Reader_last.H [x0, x1] Tryz.func132 (by kernel_rfl) (by kernel_rfl) h

def pithlaw14_Reader_tree.H : Hints := { cut := fun  | _ => none, loop := fun | 3 => ([9, 11], 4192768) | _ => ([], 0), order := fun  | _ => [] }
def pithlaw14_Reader_tree.F [Pan] (x0 x1 x2 x3 : Value) (w : World) (Q : Value → World → Prop) : Prop :=
 ∃ (L3 : Value → Value → World → Prop) (m3 : Value → Value → World → Nat),
 L3 (.int .i64 1) (.int .i64 0) w ∧
 ∀ (_k3 : Env) (m9l3 : Value) (v11l3 : Value) (w1 : World), L3 m9l3 v11l3 w1 →
 pN Tryz.prog (oBin .lss 3 (.tmp 11) (.tmp 10) v11l3 x1) w1 fun x12 w2 =>
 pIf x12
 (pN Tryz.prog (oBin .mul 3 (.const (.int .i64 2)) (.tmp 13) (.int .i64 2) m9l3) w2 fun x14 w3 =>
 pN Tryz.prog (oCall 128 [x0, m9l3, x2, x3]) w3 fun x19 w4 =>
 pN Tryz.prog (oBin .add 3 (.tmp 14) (.tmp 19) x14 x19) w4 fun x20 w5 =>
 pN Tryz.prog (oBin .add 3 (.tmp 11) (.const (.int .i64 1)) v11l3 (.int .i64 1)) w5 fun x21 w6 =>
 (L3 x20 x21 w6 ∧ m3 x20 x21 w6 < m3 m9l3 v11l3 w1))
 (pN Tryz.prog (oBin .shl 3 (.const (.int .i64 1)) (.tmp 23) (.int .i64 1) x1) w2 fun x24 w7 =>
 pN Tryz.prog (oBin .sub 3 (.tmp 22) (.tmp 24) m9l3 x24) w7 fun x25 w8 =>
 Q x25 w8)
theorem pithlaw14_Reader_tree.calls [Pan] {x0 x1 x2 x3 : Value} {w : World} {Q : Value → World → Prop} (h : pithlaw14_Reader_tree.F x0 x1 x2 x3 w Q) : Calls Tryz.prog 164 #[x0, x1, x2, x3] w (retP Q) := calls_lift mixed pithlaw14_Reader_tree.H [x0, x1, x2, x3] Tryz.func164 (by kernel_rfl) (by kernel_rfl) h

def pithlaw14_Reader_back.H : Hints := { cut := fun  | _ => none, loop := fun | 3 => ([9, 10, 14], 4294958592) | _ => ([], 0), order := fun  | _ => [] }
def pithlaw14_Reader_back.F [Pan] (x0 x1 x2 x3 : Value) (w : World) (Q : Value → World → Prop) : Prop :=
 ∃ (L3 : Value → Value → Value → World → Prop) (m3 : Value → Value → Value → World → Nat),
 L3 (.int .i64 1) (.int .i64 0) (.int .i64 0) w ∧
 ∀ (_k3 : Env) (m9l3 : Value) (v10l3 : Value) (v14l3 : Value) (w1 : World), L3 m9l3 v10l3 v14l3 w1 →
 pN Tryz.prog (oBin .lss 3 (.tmp 14) (.tmp 13) v14l3 x1) w1 fun x15 w2 =>
 pIf x15
 (pN Tryz.prog (oCall 128 [x0, m9l3, x2, x3]) w2 fun x21 w3 =>
 pN Tryz.prog (oBin .shl 3 (.tmp 23) (.tmp 24) x21 v14l3) w3 fun x25 w4 =>
 pN Tryz.prog (oBin .add 3 (.tmp 22) (.tmp 25) v10l3 x25) w4 fun x26 w5 =>
 pN Tryz.prog (oBin .mul 3 (.const (.int .i64 2)) (.tmp 27) (.int .i64 2) m9l3) w5 fun x28 w6 =>
 pN Tryz.prog (oBin .add 3 (.tmp 28) (.tmp 29) x28 x21) w6 fun x30 w7 =>
 pN Tryz.prog (oBin .add 3 (.tmp 14) (.const (.int .i64 1)) v14l3 (.int .i64 1)) w7 fun x31 w8 =>
 (L3 x30 x26 x31 w8 ∧ m3 x30 x26 x31 w8 < m3 m9l3 v10l3 v14l3 w1))
 (Q v10l3 w2)
theorem pithlaw14_Reader_back.calls [Pan] {x0 x1 x2 x3 : Value} {w : World} {Q : Value → World → Prop} (h : pithlaw14_Reader_back.F x0 x1 x2 x3 w Q) : Calls Tryz.prog 165 #[x0, x1, x2, x3] w (retP Q) := calls_lift mixed pithlaw14_Reader_back.H [x0, x1, x2, x3] Tryz.func165 (by kernel_rfl) (by kernel_rfl) h

end Go.Proofs.YtbgnnjfpiblkmaaGreatDoor

namespace Go.Proofs.YtbgnnjfpiblkmaaGreatDoor
open Go
namespace R

theorem snoc_ind {α : Type} {p : List α → Prop} (h0 : p []) (h1 : ∀ l b, p l → p (l ++ [b])) (l : List α) : p l := by
  have : ∀ m : List α, p m.reverse := by
    intro m
    induction m with
    | nil => exact h0
    | cons b m ih => rw [List.reverse_cons]; exact h1 _ _ ih
  have := this l.reverse
  rwa [List.reverse_reverse] at this

def num (l : List UInt8) : Int := l.foldl (fun n b => n * 256 + (b.toNat : Int)) 0
theorem foldl_num (l : List UInt8) : ∀ n : Int, l.foldl (fun n b => n * 256 + (b.toNat : Int)) n = n * 256 ^ l.length + num l := by
  induction l with
  | nil => intro n; simp [num]
  | cons b l ih =>
    intro n
    simp only [num, List.foldl_cons, List.length_cons]
    rw [ih, ih (0 * 256 + (b.toNat : Int)), Int.pow_succ]
    grind
theorem num_append (l m : List UInt8) : num (l ++ m) = num l * 256 ^ m.length + num m := by
  rw [num, List.foldl_append, foldl_num]; rfl
theorem num_snoc (l : List UInt8) (b : UInt8) : num (l ++ [b]) = num l * 256 + (b.toNat : Int) := by
  rw [num_append]; simp [num]
theorem num_nonneg (l : List UInt8) : 0 ≤ num l := by
  induction l using snoc_ind with
  | h0 => simp [num]
  | h1 l b ih => rw [num_snoc]; omega
theorem num_lt (l : List UInt8) : num l < 256 ^ l.length := by
  induction l using snoc_ind with
  | h0 => simp [num]
  | h1 l b ih =>
    rw [num_snoc, List.length_append, List.length_cons, List.length_nil, Int.pow_succ]
    have := b.toNat_lt
    omega

def digits (n : Int) : Nat → List UInt8
  | 0 => []
  | k + 1 => digits (n / 256) k ++ [byteOf n]
theorem digits_length (k : Nat) : ∀ n : Int, (digits n k).length = k := by
  induction k with
  | zero => intro n; rfl
  | succ k ih => intro n; simp [digits, ih]
theorem num_digits (k : Nat) : ∀ n : Int, num (digits n k) = n % 256 ^ k := by
  induction k with
  | zero => intro n; simp [digits, num, Int.emod_one]
  | succ k ih =>
    intro n
    rw [digits, num_snoc, ih, byteOf_toNat, Int.pow_succ]
    have p : (0 : Int) < 256 ^ k := Int.pow_pos (by omega)
    generalize (256 : Int) ^ k = q at p
    have h1 := Int.emod_add_mul_ediv n 256
    have h2 := Int.emod_add_mul_ediv (n / 256) q
    have h3 := Int.emod_add_mul_ediv n (q * 256)
    have h4 : n / 256 / q = n / (q * 256) := by rw [Int.ediv_ediv_of_nonneg (by omega)]; congr 1; grind
    rw [h4] at h2
    generalize n / (q * 256) = d at h2 h3
    generalize n / 256 = c at h1 h2 ⊢
    generalize c % q = e at h2 ⊢
    grind
theorem digits_num (l : List UInt8) : digits (num l) l.length = l := by
  induction l using snoc_ind with
  | h0 => rfl
  | h1 l b ih =>
    rw [List.length_append, List.length_cons, List.length_nil, digits, num_snoc]
    have := b.toNat_lt
    have h1 : (num l * 256 + (b.toNat : Int)) / 256 = num l := by omega
    have h2 : byteOf (num l * 256 + (b.toNat : Int)) = b := by
      apply UInt8.toNat_inj.1
      have := byteOf_toNat (num l * 256 + (b.toNat : Int))
      omega
    rw [h1, ih, h2]
theorem digits_of {l : List UInt8} {n : Int} {k : Nat} (hl : l.length = k) (h : num l = n) : l = digits n k := by
  rw [← hl, ← h, digits_num]

structure S where
  N : Int
  R : Int
  k : Nat

def S.new : S := ⟨0, 4294967295, 0⟩
def S.widen (s : S) : S := if h : 0 < s.R ∧ s.R < 16777216 then S.widen ⟨s.N * 256, s.R * 256, s.k + 1⟩ else s
termination_by (16777216 - s.R).toNat
decreasing_by omega
theorem S.widen_go {s : S} (h0 : 0 < s.R) (h1 : s.R < 16777216) : s.widen = S.widen ⟨s.N * 256, s.R * 256, s.k + 1⟩ := by
  rw [S.widen, dif_pos ⟨h0, h1⟩]
theorem S.widen_no {s : S} (h1 : ¬ s.R < 16777216) : s.widen = s := by
  rw [S.widen, dif_neg (by omega)]
def S.cut (s : S) (c bit : Int) : S := (if bit = 0 then ⟨s.N, c, s.k⟩ else ⟨s.N + c, s.R - c, s.k⟩ : S).widen
def S.one (s : S) (bit : Int) : S := (if bit = 1 then ⟨s.N + s.R / 2, s.R / 2, s.k⟩ else ⟨s.N, s.R / 2, s.k⟩ : S).widen
def S.direct (s : S) (v : Int) : Nat → S
  | 0 => s
  | n + 1 => S.direct (s.one (v / 2 ^ n % 2)) v n
def S.bytes (s : S) : List UInt8 := digits s.N (s.k + 5)

structure Ok (s : S) : Prop where
  n0 : 0 ≤ s.N
  r0 : 16777216 ≤ s.R
  r1 : s.R < 4294967296
  top : s.N + s.R ≤ 4294967296 * 256 ^ s.k

theorem Ok.new : Ok S.new := ⟨by decide, by decide, by decide, by decide⟩
theorem widen_ok : ∀ (n : Nat) (s : S), (16777216 - s.R).toNat = n → 0 ≤ s.N → 0 < s.R → s.R < 4294967296 → s.N + s.R ≤ 4294967296 * 256 ^ s.k → Ok s.widen := by
  intro n
  induction n using Nat.strongRecOn with
  | _ n ih =>
    intro s hn h0 h1 h2 h3
    by_cases c : s.R < 16777216
    · rw [S.widen_go h1 c]
      refine ih (16777216 - s.R * 256).toNat (by omega) ⟨s.N * 256, s.R * 256, s.k + 1⟩ rfl (by simp only; omega) (by simp only; omega) (by simp only; omega) ?_
      simp only [Int.pow_succ]
      generalize (256 : Int) ^ s.k = W at h3 ⊢
      omega
    · rw [S.widen_no c]
      exact ⟨h0, by omega, h2, h3⟩
theorem Ok.cut {s : S} (h : Ok s) (c bit : Int) (h0 : 0 < c) (h1 : c < s.R) : Ok (s.cut c bit) := by
  obtain ⟨a1, a2, a3, a4⟩ := h
  unfold S.cut
  split
  · exact widen_ok _ _ rfl a1 h0 (by simp only; omega) (by simp only; omega)
  · exact widen_ok _ _ rfl (by simp only; omega) (by simp only; omega) (by simp only; omega) (by simp only; omega)
theorem Ok.one {s : S} (h : Ok s) (bit : Int) : Ok (s.one bit) := by
  obtain ⟨a1, a2, a3, a4⟩ := h
  unfold S.one
  split
  · exact widen_ok _ _ rfl (by simp only; omega) (by simp only; omega) (by simp only; omega) (by simp only; omega)
  · exact widen_ok _ _ rfl a1 (by simp only; omega) (by simp only; omega) (by simp only; omega)
theorem Ok.direct (v : Int) (n : Nat) : ∀ {s : S}, Ok s → Ok (s.direct v n) := by
  induction n with
  | zero => intro s h; exact h
  | succ n ih => intro s h; exact ih (h.one _)

theorem widen_mono_n : ∀ (n : Nat) (s : S), (16777216 - s.R).toNat = n → s.k ≤ s.widen.k := by
  intro n
  induction n using Nat.strongRecOn with
  | _ n ih =>
    intro s hn
    by_cases c : 0 < s.R ∧ s.R < 16777216
    · rw [S.widen_go c.1 c.2]
      have := ih (16777216 - s.R * 256).toNat (by omega) ⟨s.N * 256, s.R * 256, s.k + 1⟩ rfl
      simp only at this
      omega
    · rw [S.widen, dif_neg c]; exact Nat.le_refl _
theorem widen_mono (s : S) : s.k ≤ s.widen.k := widen_mono_n _ s rfl
theorem widen_k : ∀ (n : Nat) (s : S), (16777216 - s.R).toNat = n → 0 < s.R → s.widen.k ≤ s.k + 3 ∧ (65536 ≤ s.R → s.widen.k ≤ s.k + 1) := by
  have step : ∀ s : S, 16777216 ≤ s.R → s.widen.k = s.k := fun s h => by rw [S.widen_no (by omega)]
  have s1 : ∀ s : S, 65536 ≤ s.R → s.widen.k ≤ s.k + 1 := fun s h => by
    by_cases c : s.R < 16777216
    · rw [S.widen_go (by omega) c, step _ (by simp only; omega)]; exact Nat.le_refl _
    · rw [step s (by omega)]; omega
  have s2 : ∀ s : S, 256 ≤ s.R → s.widen.k ≤ s.k + 2 := fun s h => by
    by_cases c : s.R < 16777216
    · rw [S.widen_go (by omega) c]; have := s1 ⟨s.N * 256, s.R * 256, s.k + 1⟩ (by simp only; omega); simp only at this; omega
    · rw [step s (by omega)]; omega
  intro n s _ h
  refine ⟨?_, s1 s⟩
  by_cases c : s.R < 16777216
  · rw [S.widen_go (by omega) c]; have := s2 ⟨s.N * 256, s.R * 256, s.k + 1⟩ (by simp only; omega); simp only at this; omega
  · rw [step s (by omega)]; omega
theorem cut_k {s : S} (h : Ok s) (c bit : Int) (h0 : 0 < c) (h1 : c < s.R) : (s.cut c bit).k ≤ s.k + 3 := by
  unfold S.cut
  split
  · exact (widen_k _ ⟨s.N, c, s.k⟩ rfl h0).1
  · exact (widen_k _ ⟨s.N + c, s.R - c, s.k⟩ rfl (by simp only; omega)).1
theorem one_k {s : S} (h : Ok s) (bit : Int) : (s.one bit).k ≤ s.k + 1 := by
  have := h.r0
  unfold S.one
  split
  · exact (widen_k _ ⟨s.N + s.R / 2, s.R / 2, s.k⟩ rfl (by simp only; omega)).2 (by simp only; omega)
  · exact (widen_k _ ⟨s.N, s.R / 2, s.k⟩ rfl (by simp only; omega)).2 (by simp only; omega)

structure E where
  low : Int
  rng : Int
  held : UInt8
  wait : Nat
  out : List UInt8

def E.new : E := ⟨0, 4294967295, 0, 0, []⟩
def E.V (e : E) : Int := ((num e.out * 256 + e.held.toNat) * 256 ^ e.wait + (256 ^ e.wait - 1)) * 4294967296 + e.low

structure Inv (e : E) : Prop where
  l0 : 0 ≤ e.low
  r0 : 0 < e.rng
  sum : e.low + e.rng < 8589934592
  held : e.held.toNat = 255 → e.low + e.rng ≤ 4294967296

def E.shift (e : E) : E :=
  if e.low < 4278190080 ∨ 4294967295 < e.low then
    ⟨e.low % 16777216 * 256, e.rng, byteOf (e.low / 16777216), 0, e.out ++ [e.held + byteOf (e.low / 4294967296)] ++ List.replicate e.wait (255 + byteOf (e.low / 4294967296))⟩
  else ⟨e.low % 16777216 * 256, e.rng, e.held, e.wait + 1, e.out⟩

theorem shift_low (e : E) : e.shift.low = e.low % 16777216 * 256 := by unfold E.shift; split <;> rfl
theorem shift_rng (e : E) : e.shift.rng = e.rng := by unfold E.shift; split <;> rfl
theorem shift_len (e : E) : e.shift.out.length + e.shift.wait = e.out.length + e.wait + 1 := by
  unfold E.shift; split <;> simp <;> omega

theorem shift_with (e : E) (r : Int) : ({ e with rng := r } : E).shift = { e.shift with rng := r } := by unfold E.shift; split <;> rfl

theorem num_replicate (b : UInt8) (n : Nat) : num (List.replicate n b) * 255 = b.toNat * (256 ^ n - 1) := by
  induction n with
  | zero => simp [num]
  | succ n ih =>
    rw [List.replicate_succ', num_snoc, Int.pow_succ]
    grind

theorem shift_V {e : E} (h : Inv e) : e.shift.V = e.V * 256 := by
  obtain ⟨h1, h2, h3, h4⟩ := h
  have hh := e.held.toNat_lt
  unfold E.shift
  have p : (0 : Int) < 256 ^ e.wait := Int.pow_pos (by omega)
  by_cases c : e.low < 4278190080 ∨ 4294967295 < e.low
  · rw [if_pos c]
    have ehb := byteOf_toNat (e.low / 16777216)
    have ec := byteOf_toNat (e.low / 4294967296)
    simp only [E.V, Int.pow_zero]
    rw [num_append, num_snoc, List.length_replicate]
    have er := num_replicate (255 + byteOf (e.low / 4294967296)) e.wait
    generalize (256 : Int) ^ e.wait = W at p er ⊢
    rcases c with c | c
    · have e0 : byteOf (e.low / 4294967296) = 0 := by
        apply UInt8.toNat_inj.1
        have e : ((0 : UInt8).toNat) = 0 := rfl
        omega
      rw [e0] at er ⊢
      have e1 : ((255 + 0 : UInt8).toNat : Int) = 255 := rfl
      have e2 : e.held + 0 = e.held := by simp
      rw [e1] at er
      rw [e2, ehb]
      have er' : num (List.replicate e.wait (255 + 0 : UInt8)) = W - 1 := by omega
      rw [er']
      have e3 : e.low / 16777216 % 256 * 4294967296 + e.low % 16777216 * 256 = e.low * 256 := by omega
      grind
    · have e0 : byteOf (e.low / 4294967296) = 1 := by
        apply UInt8.toNat_inj.1
        have e : ((1 : UInt8).toNat) = 1 := rfl
        omega
      rw [e0] at er ⊢
      have e1 : ((255 + 1 : UInt8).toNat : Int) = 0 := rfl
      rw [e1] at er
      have hne : e.held.toNat ≠ 255 := fun hc => by have := h4 hc; omega
      have e2 : ((e.held + 1).toNat : Int) = e.held.toNat + 1 := by
        rw [UInt8.toNat_add]
        have e : ((1 : UInt8).toNat) = 1 := rfl
        omega
      rw [e2, ehb]
      have er' : num (List.replicate e.wait (255 + 1 : UInt8)) = 0 := by omega
      rw [er']
      have e3 : e.low / 16777216 % 256 * 4294967296 + e.low % 16777216 * 256 = (e.low - 4294967296) * 256 := by omega
      grind
  · rw [if_neg c]
    simp only [E.V, Int.pow_succ]
    generalize (256 : Int) ^ e.wait = W at p ⊢
    have e3 : e.low % 16777216 = e.low - 4278190080 := by omega
    rw [e3]
    grind

theorem shift_inv {e : E} (h : Inv e) (r : Int) (hr0 : 0 < r) (hr1 : r ≤ e.rng * 256) (hr2 : r < 4294967296) : Inv { e.shift with rng := r } := by
  obtain ⟨h1, h2, h3, h4⟩ := h
  have hl := shift_low e
  refine ⟨by simp only [hl]; omega, hr0, by simp only [hl]; omega, fun hh => ?_⟩
  simp only [hl]
  unfold E.shift at hh
  split at hh
  · rename_i c
    simp only at hh
    have := byteOf_toNat (e.low / 16777216)
    rcases c with c | c <;> omega
  · rename_i c
    have := h4 hh
    omega

structure Rep (e : E) (s : S) : Prop where
  inv : Inv e
  val : e.V = s.N
  rng : e.rng = s.R
  len : e.out.length + e.wait = s.k

theorem Rep.new : Rep E.new S.new := by
  refine ⟨⟨by decide, by decide, by decide, fun h => ?_⟩, by decide, rfl, rfl⟩
  cases h

theorem Rep.shift {e : E} {s : S} (h : Rep e s) (r : Int) (hr0 : 0 < r) (hr1 : r ≤ e.rng * 256) (hr2 : r < 4294967296) : Rep { e.shift with rng := r } ⟨s.N * 256, r, s.k + 1⟩ := by
  refine ⟨shift_inv h.inv r hr0 hr1 hr2, ?_, rfl, ?_⟩
  · have := shift_V h.inv
    rw [h.val] at this
    exact this
  · have := shift_len e
    rw [h.len] at this
    exact this

theorem Rep.shift0 {e : E} {s : S} (h : Rep e s) (hr : e.rng < 4294967296) : Rep e.shift ⟨s.N * 256, e.rng, s.k + 1⟩ := by
  have := h.shift e.rng h.inv.r0 (by have := h.inv.r0; omega) hr
  have e1 : { e.shift with rng := e.rng } = e.shift := by rw [← shift_rng e]
  rwa [e1] at this
def E.shifts (e : E) : Nat → E
  | 0 => e
  | n + 1 => (E.shifts e n).shift

theorem Rep.bytes {e : E} {s : S} (h : Rep e s) (hr : e.rng < 4294967296) : e.shift.shift.shift.shift.shift.out = s.bytes ∧ e.shift.shift.shift.shift.shift.out.length = s.k + 5 := by
  have st : ∀ {e : E} {s : S}, Rep e s → e.rng < 4294967296 → Rep e.shift ⟨s.N * 256, e.rng, s.k + 1⟩ := by
    intro e s h hr
    have := h.shift e.rng h.inv.r0 (by have := h.inv.r0; omega) hr
    have e1 : { e.shift with rng := e.rng } = e.shift := by rw [← shift_rng e]
    rwa [e1] at this
  have h1 := st h hr
  have r1 := shift_rng e
  have h2 := st h1 (by rw [r1]; exact hr)
  have r2 := shift_rng e.shift
  have h3 := st h2 (by rw [r2, r1]; exact hr)
  have r3 := shift_rng e.shift.shift
  have h4 := st h3 (by rw [r3, r2, r1]; exact hr)
  have r4 := shift_rng e.shift.shift.shift
  have h5 := st h4 (by rw [r4, r3, r2, r1]; exact hr)
  have l0 := h.inv.l0
  have l1 := shift_low e
  have l2 := shift_low e.shift
  have l3 := shift_low e.shift.shift
  have l4 := shift_low e.shift.shift.shift
  have l4' : e.shift.shift.shift.shift.low = 0 := by omega
  have hv := h5.val
  have hl := h5.len
  generalize e.shift.shift.shift.shift = f at l4' hv hl ⊢
  have e5 : f.shift = ⟨0, f.rng, byteOf (f.low / 16777216), 0, f.shift.out⟩ := by
    unfold E.shift
    rw [if_pos (by omega), l4']
    rfl
  rw [e5] at hv hl
  simp only [E.V, Int.pow_zero, l4'] at hv hl
  have e6 : ((byteOf (0 / 16777216)).toNat : Int) = 0 := by rw [byteOf_toNat]; rfl
  rw [e6] at hv
  have hl5 : f.shift.out.length = s.k + 5 := by omega
  refine ⟨?_, hl5⟩
  unfold S.bytes
  exact digits_of hl5 (by omega)
end R
end Go.Proofs.YtbgnnjfpiblkmaaGreatDoor

namespace Go.Proofs.YtbgnnjfpiblkmaaGreatDoor
open Go
set_option maxRecDepth 100000

def prob_New.F [Pan] (x0 : Value) (w : World) (Q : Value → World → Prop) : Prop :=
 pN Tryz.prog (oBin .lss 3 (.tmp 5) (.const (.int .i64 0)) x0 (.int .i64 0)) w fun x6 w1 =>
 pGd (gB x6 false) (pN Tryz.prog (oMv x0) w1) w1 fun x8 w2 =>
 pGd (gB x6 false) (pN Tryz.prog (oBin .gtr 3 (.tmp 8) (.const (.int .i64 1048576)) x8 (.int .i64 1048576)) w2) w2 fun x9 w3 =>
 pN Tryz.prog (oPick x6 (.bool true) x9) w3 fun x10 w4 =>
 pIf x10
 (Q (.tuple #[(.pointer none), (.int .i64 7)]) w4)
 (pN Tryz.prog (oMk 217 x0 x0) w4 fun x12 w5 =>
 pN Tryz.prog (oBuild 254 [(0, x12)]) w5 fun x13 w6 =>
 pN Tryz.prog (oBox 254 x13) w6 fun x14 w7 =>
 pN Tryz.prog (oCall 174 [x14]) w7 fun _ w8 =>
 Q (.tuple #[x14, (.int .i64 0)]) w8)
theorem prob_New.calls [Pan] {x0 : Value} {w : World} {Q : Value → World → Prop} (h : prob_New.F x0 w Q) : Calls Tryz.prog 141 #[x0] w (retP Q) := calls_lift mixed .z [x0] Tryz.func141 (by kernel_rfl) (by kernel_rfl) h

def prob_Set_Reset.H : Hints := { cut := fun  | _ => none, loop := fun | 1 => ([8], 261892) | _ => ([], 0), order := fun  | _ => [] }
def prob_Set_Reset.F [Pan] (x0 : Value) (w : World) (Q : Value → World → Prop) : Prop :=
 pN Tryz.prog (oNil x0) w fun x4 w1 =>
 pN Tryz.prog (oFld 254 x4 0) w1 fun x5 w2 =>
 pN Tryz.prog (oLoad 217 x5) w2 fun x6 w3 =>
 pN Tryz.prog (oBi .len #[217] 3 [false] [x6]) w3 fun x7 w4 =>
 ∃ (L1 : Value → World → Prop) (m1 : Value → World → Nat),
 L1 (.int .i64 0) w4 ∧
 ∀ (_k1 : Env) (v8l1 : Value) (w5 : World), L1 v8l1 w5 →
 pN Tryz.prog (oBin .lss 3 (.tmp 8) (.tmp 7) v8l1 x7) w5 fun x9 w6 =>
 pIf x9
 (pN Tryz.prog (oNil x0) w6 fun x12 w7 =>
 pN Tryz.prog (oFld 254 x12 0) w7 fun x13 w8 =>
 pN Tryz.prog (oLoad 217 x13) w8 fun x14 w9 =>
 pN Tryz.prog (oIdx 217 x14 v8l1) w9 fun x16 w10 =>
 pN Tryz.prog (oStore 3 x16 (.int .i64 1024)) w10 fun _ w11 =>
 pN Tryz.prog (oBin .add 3 (.tmp 8) (.const (.int .i64 1)) v8l1 (.int .i64 1)) w11 fun x17 w12 =>
 (L1 x17 w12 ∧ m1 x17 w12 < m1 v8l1 w5))
 (Q (.tuple #[]) w6)
theorem prob_Set_Reset.calls [Pan] {x0 : Value} {w : World} {Q : Value → World → Prop} (h : prob_Set_Reset.F x0 w Q) : Calls Tryz.prog 174 #[x0] w (retP Q) := calls_lift mixed prob_Set_Reset.H [x0] Tryz.func174 (by kernel_rfl) (by kernel_rfl) h

def prob_Set_At.F [Pan] (x0 x1 : Value) (w : World) (Q : Value → World → Prop) : Prop :=
 pN Tryz.prog (oCall 199 [x0, x1]) w fun x9 w1 =>
 pN Tryz.prog (oBin .neq 38 (.tmp 10) (.const (.int .i64 0)) x9 (.int .i64 0)) w1 fun x11 w2 =>
 pIf x11
 (Q (.tuple #[(.int .i64 0), x9]) w2)
 (pN Tryz.prog (oNil x0) w2 fun x14 w3 =>
 pN Tryz.prog (oFld 254 x14 0) w3 fun x15 w4 =>
 pN Tryz.prog (oLoad 217 x15) w4 fun x16 w5 =>
 pN Tryz.prog (oIdx 217 x16 x1) w5 fun x18 w6 =>
 pN Tryz.prog (oLoad 3 x18) w6 fun x19 w7 =>
 Q (.tuple #[x19, (.int .i64 0)]) w7)
theorem prob_Set_At.calls [Pan] {x0 x1 : Value} {w : World} {Q : Value → World → Prop} (h : prob_Set_At.F x0 x1 w Q) : Calls Tryz.prog 179 #[x0, x1] w (retP Q) := calls_lift mixed .z [x0, x1] Tryz.func179 (by kernel_rfl) (by kernel_rfl) h

def prob_Set_Turn.H : Hints := { cut := fun | 4 => some ([], 268433408) | _ => none, loop := fun  | _ => ([], 0), order := fun | 3 => [(0, 0), (1, 1), (2, 3), (3, 7), (4, 15), (5, 31), (6, 63), (7, 127), (8, 255), (9, 511), (10, 1023), (11, 2047), (12, 4095), (13, 8191), (14, 16383), (15, 32767)] | _ => [] }
def prob_Set_Turn.F [Pan] (x0 x1 x2 : Value) (w : World) (Q : Value → World → Prop) : Prop :=
 pN Tryz.prog (oCall 199 [x0, x1]) w fun x10 w1 =>
 ∃ I4 : World → Prop,
 (pN Tryz.prog (oBin .eql 38 (.tmp 11) (.const (.int .i64 0)) x10 (.int .i64 0)) w1 fun x12 w2 =>
 pIf x12
 (pDr w2 fun w3 =>
 pA Tryz.prog (oNil x0) fun x14 =>
 pA Tryz.prog (oFld 254 x14 0) fun x15 =>
 pL Tryz.prog (oLoad 217 x15) w3 fun x16 =>
 pA Tryz.prog (oNil x0) fun x19 =>
 pA Tryz.prog (oFld 254 x19 0) fun x20 =>
 pL Tryz.prog (oLoad 217 x20) w3 fun x21 =>
 pA Tryz.prog (oIdx 217 x21 x1) fun x23 =>
 pL Tryz.prog (oLoad 3 x23) w3 fun x24 =>
 pN Tryz.prog (oCall 200 [x24, x2]) w3 fun x26 w4 =>
 ((Sem.run Tryz.prog (oLoad 217 x15) w4 = .ok (.value x16) w4) ∧ True) ∧ (pA Tryz.prog (oIdx 217 x16 x1) fun x27 =>
 pN Tryz.prog (oStore 3 x27 x26) w4 fun _ w5 =>
 (True) ∧ (I4 w5)))
 (I4 w2)) ∧
 ∀ (_j4 : Env) (w6 : World), I4 w6 →
 Q x10 w6
theorem prob_Set_Turn.calls [Pan] {x0 x1 x2 : Value} {w : World} {Q : Value → World → Prop} (h : prob_Set_Turn.F x0 x1 x2 w Q) : Calls Tryz.prog 182 #[x0, x1, x2] w (retP Q) := calls_lift mixed prob_Set_Turn.H [x0, x1, x2] Tryz.func182 (by kernel_rfl) (by kernel_rfl) h

def prob_Bound.F [Pan] (x0 x1 : Value) (w : World) (Q : Value → World → Prop) : Prop :=
 pN Tryz.prog (oBin .shr 148 (.tmp 5) (.const (.int .u64 11)) x0 (.int .u64 11)) w fun x6 w1 =>
 pN Tryz.prog (oCall 201 [x1]) w1 fun x8 w2 =>
 pN Tryz.prog (oConv 3 148 x8) w2 fun x9 w3 =>
 pN Tryz.prog (oBin .mul 148 (.tmp 6) (.tmp 9) x6 x9) w3 fun x10 w4 =>
 Q x10 w4
theorem prob_Bound.calls [Pan] {x0 x1 : Value} {w : World} {Q : Value → World → Prop} (h : prob_Bound.F x0 x1 w Q) : Calls Tryz.prog 184 #[x0, x1] w (retP Q) := calls_lift mixed .z [x0, x1] Tryz.func184 (by kernel_rfl) (by kernel_rfl) h

def prob_Set_has.F [Pan] (x0 x1 : Value) (w : World) (Q : Value → World → Prop) : Prop :=
 pN Tryz.prog (oBin .lss 3 (.tmp 5) (.const (.int .i64 0)) x1 (.int .i64 0)) w fun x6 w1 =>
 pGd (gB x6 false) (pN Tryz.prog (oMv x1) w1) w1 fun x8 w2 =>
 pGd (gB x6 false) (pN Tryz.prog (oMv x0) w2) w2 fun x9 w3 =>
 pGd (gB x6 false) (pN Tryz.prog (oNil x9) w3) w3 fun x10 w4 =>
 pGd (gB x6 false) (pN Tryz.prog (oFld 254 x10 0) w4) w4 fun x11 w5 =>
 pGd (gB x6 false) (pN Tryz.prog (oLoad 217 x11) w5) w5 fun x12 w6 =>
 pGd (gB x6 false) (pN Tryz.prog (oBi .len #[217] 3 [false] [x12]) w6) w6 fun x13 w7 =>
 pGd (gB x6 false) (pN Tryz.prog (oBin .geq 3 (.tmp 8) (.tmp 13) x8 x13) w7) w7 fun x14 w8 =>
 pN Tryz.prog (oPick x6 (.bool true) x14) w8 fun x15 w9 =>
 pIf x15
 (Q (.int .i64 7) w9)
 (Q (.int .i64 0) w9)
theorem prob_Set_has.calls [Pan] {x0 x1 : Value} {w : World} {Q : Value → World → Prop} (h : prob_Set_has.F x0 x1 w Q) : Calls Tryz.prog 199 #[x0, x1] w (retP Q) := calls_lift mixed .z [x0, x1] Tryz.func199 (by kernel_rfl) (by kernel_rfl) h

def prob_Next.F [Pan] (x0 x1 : Value) (w : World) (Q : Value → World → Prop) : Prop :=
 pN Tryz.prog (oCall 201 [x0]) w fun x6 w1 =>
 pN Tryz.prog (oBin .eql 3 (.tmp 7) (.const (.int .i64 0)) x1 (.int .i64 0)) w1 fun x8 w2 =>
 pIf x8
 (pN Tryz.prog (oBin .sub 3 (.const (.int .i64 2048)) (.tmp 10) (.int .i64 2048) x6) w2 fun x11 w3 =>
 pN Tryz.prog (oBin .shr 3 (.tmp 11) (.const (.int .u64 5)) x11 (.int .u64 5)) w3 fun x12 w4 =>
 pN Tryz.prog (oBin .add 3 (.tmp 9) (.tmp 12) x6 x12) w4 fun x13 w5 =>
 Q x13 w5)
 (pN Tryz.prog (oBin .shr 3 (.tmp 15) (.const (.int .u64 5)) x6 (.int .u64 5)) w2 fun x16 w6 =>
 pN Tryz.prog (oBin .sub 3 (.tmp 14) (.tmp 16) x6 x16) w6 fun x17 w7 =>
 Q x17 w7)
theorem prob_Next.calls [Pan] {x0 x1 : Value} {w : World} {Q : Value → World → Prop} (h : prob_Next.F x0 x1 w Q) : Calls Tryz.prog 200 #[x0, x1] w (retP Q) := calls_lift mixed .z [x0, x1] Tryz.func200 (by kernel_rfl) (by kernel_rfl) h

def prob_taken.F [Pan] (x0 : Value) (w : World) (Q : Value → World → Prop) : Prop :=
 pN Tryz.prog (oBi .min #[3, 3] 3 [false, true] [x0, (.int .i64 2047)]) w fun x4 w1 =>
 pN Tryz.prog (oBi .max #[3, 3] 3 [true, false] [(.int .i64 0), x4]) w1 fun x5 w2 =>
 Q x5 w2
theorem prob_taken.calls [Pan] {x0 : Value} {w : World} {Q : Value → World → Prop} (h : prob_taken.F x0 w Q) : Calls Tryz.prog 201 #[x0] w (retP Q) := calls_lift mixed .z [x0] Tryz.func201 (by kernel_rfl) (by kernel_rfl) h

def prob_Set_Len.F [Pan] (x0 : Value) (w : World) (Q : Value → World → Prop) : Prop :=
 pN Tryz.prog (oNil x0) w fun x4 w1 =>
 pN Tryz.prog (oFld 254 x4 0) w1 fun x5 w2 =>
 pN Tryz.prog (oLoad 217 x5) w2 fun x6 w3 =>
 pN Tryz.prog (oBi .len #[217] 3 [false] [x6]) w3 fun x7 w4 =>
 Q x7 w4
theorem prob_Set_Len.calls [Pan] {x0 : Value} {w : World} {Q : Value → World → Prop} (h : prob_Set_Len.F x0 w Q) : Calls Tryz.prog 225 #[x0] w (retP Q) := calls_lift mixed .z [x0] Tryz.func225 (by kernel_rfl) (by kernel_rfl) h

def prob_Cost.H : Hints := { cut := fun | 4 => some ([0], 1921) | _ => none, loop := fun  | _ => ([], 0), order := fun  | _ => [] }
def prob_Cost.F [Pan] (x0 x1 : Value) (w : World) (Q : Value → World → Prop) : Prop :=
 pN Tryz.prog (oCall 201 [x0]) w fun x6 w1 =>
 ∃ I4 : Value → World → Prop,
 (pN Tryz.prog (oBin .neq 3 (.tmp 7) (.const (.int .i64 0)) x1 (.int .i64 0)) w1 fun x8 w2 =>
 pIf x8
 (pN Tryz.prog (oBin .sub 3 (.const (.int .i64 2047)) (.tmp 9) (.int .i64 2047) x6) w2 fun x10 w3 =>
 I4 x10 w3)
 (I4 x6 w2)) ∧
 ∀ (_j4 : Env) (p0c4 : Value) (w4 : World), I4 p0c4 w4 →
 pN Tryz.prog (oBin .quo 3 (.tmp 11) (.const (.int .i64 16)) p0c4 (.int .i64 16)) w4 fun x12 w5 =>
 pN Tryz.prog (oCall 261 [x12]) w5 fun x13 w6 =>
 Q x13 w6
theorem prob_Cost.calls [Pan] {x0 x1 : Value} {w : World} {Q : Value → World → Prop} (h : prob_Cost.F x0 x1 w Q) : Calls Tryz.prog 258 #[x0, x1] w (retP Q) := calls_lift mixed prob_Cost.H [x0, x1] Tryz.func258 (by kernel_rfl) (by kernel_rfl) h

def prob_costing.H : Hints := { cut := fun  | _ => none, loop := fun | 3 => ([3, 4, 8], 4194072) | 6 => ([3, 4], 2064408) | _ => ([], 0), order := fun  | _ => [] }
def prob_costing.F [Pan] (x0 : Value) (w : World) (Q : Value → World → Prop) : Prop :=
 pN Tryz.prog (oBin .mul 3 (.const (.int .i64 16)) (.tmp 5) (.int .i64 16) x0) w fun x6 w1 =>
 pN Tryz.prog (oBin .add 3 (.tmp 6) (.const (.int .i64 8)) x6 (.int .i64 8)) w1 fun x7 w2 =>
 ∃ (L3 : Value → Value → Value → World → Prop) (m3 : Value → Value → Value → World → Nat),
 L3 x7 (.int .i64 0) (.int .i64 0) w2 ∧
 ∀ (_k3 : Env) (w3l3 : Value) (c4l3 : Value) (v8l3 : Value) (w3 : World), L3 w3l3 c4l3 v8l3 w3 →
 pN Tryz.prog (oBin .lss 3 (.tmp 8) (.const (.int .i64 4)) v8l3 (.int .i64 4)) w3 fun x9 w4 =>
 pIf x9
 (pN Tryz.prog (oBin .mul 3 (.tmp 10) (.tmp 11) w3l3 w3l3) w4 fun x12 w5 =>
 pN Tryz.prog (oBin .mul 3 (.tmp 13) (.const (.int .i64 2)) c4l3 (.int .i64 2)) w5 fun x14 w6 =>
 ∃ (L6 : Value → Value → World → Prop) (m6 : Value → Value → World → Nat),
 L6 x12 x14 w6 ∧
 ∀ (_k6 : Env) (w3l6 : Value) (c4l6 : Value) (w7 : World), L6 w3l6 c4l6 w7 →
 pN Tryz.prog (oBin .geq 3 (.tmp 15) (.const (.int .i64 65536)) w3l6 (.int .i64 65536)) w7 fun x16 w8 =>
 pIf x16
 (pN Tryz.prog (oBin .quo 3 (.tmp 17) (.const (.int .i64 2)) w3l6 (.int .i64 2)) w8 fun x18 w9 =>
 pN Tryz.prog (oBin .add 3 (.tmp 19) (.const (.int .i64 1)) c4l6 (.int .i64 1)) w9 fun x20 w10 =>
 (L6 x18 x20 w10 ∧ m6 x18 x20 w10 < m6 w3l6 c4l6 w7))
 (pN Tryz.prog (oBin .add 3 (.tmp 8) (.const (.int .i64 1)) v8l3 (.int .i64 1)) w8 fun x21 w11 =>
 (L3 w3l6 c4l6 x21 w11 ∧ m3 w3l6 c4l6 x21 w11 < m3 w3l3 c4l3 v8l3 w3)))
 (pN Tryz.prog (oBin .sub 3 (.const (.int .i64 161)) (.tmp 22) (.int .i64 161) c4l3) w4 fun x23 w12 =>
 Q x23 w12)
theorem prob_costing.calls [Pan] {x0 : Value} {w : World} {Q : Value → World → Prop} (h : prob_costing.F x0 w Q) : Calls Tryz.prog 261 #[x0] w (retP Q) := calls_lift mixed prob_costing.H [x0] Tryz.func261 (by kernel_rfl) (by kernel_rfl) h

end Go.Proofs.YtbgnnjfpiblkmaaGreatDoor

namespace Go.Proofs.YtbgnnjfpiblkmaaGreatDoor
open Go Go.RowKit Go.ChangeShapes Go.Deep

theorem bulk_pos {H : Type} (d : DataW H) : 1 ≤ Rows.uptoBulk d := by
  cases d with
  | lit l => cases l <;> simp [Rows.uptoBulk]
  | _ => simp [Rows.uptoBulk]
theorem bulk_mem {H : Type} {d : DataW H} : ∀ {l : List (DataW H)}, d ∈ l → Rows.uptoBulk d ≤ Rows.uptoBulkAll l
  | [], h => by cases h
  | x :: r, h => by
    simp only [Rows.uptoBulkAll]
    rcases List.mem_cons.1 h with rfl | h
    · omega
    · have := bulk_mem h; omega
theorem bulk_length {H : Type} : ∀ (l : List (DataW H)), l.length ≤ Rows.uptoBulkAll l
  | [] => by simp [Rows.uptoBulkAll]
  | x :: r => by have := bulk_pos x; have := bulk_length r; simp only [Rows.uptoBulkAll, List.length_cons]; omega
theorem bulk_small {H : Type} {ds : List (DataW H)} (h : Rows.uptoSmall H ds = true) : ∀ d ∈ ds, Rows.uptoBulk d ≤ 1048576 := by
  intro d hd
  have h1 : Rows.uptoBulkAll ds ≤ 1048576 := of_decide_eq_true h
  have := bulk_mem hd
  omega

theorem weights_all {H : Type} {P : Program} {e : TypeId} {d : DataW H} {n : Nat} : ∀ {l : List (DataW H)}, d ∈ l → n ∈ d.weights P e → n ∈ DataW.weightsAll P e l
  | [], h, _ => by cases h
  | x :: r, h, hn => by
    simp only [DataW.weightsAll, List.mem_append]
    rcases List.mem_cons.1 h with rfl | h
    · exact .inl hn
    · exact .inr (weights_all h hn)

structure Opn (P : Program) (W : World) (t : TypeId) {β : Type} (enc : β → List Value) (ok : β → Nat → Prop) : Prop where
  get : ∀ {H : Type} (en : TypeId × Value → H) (fuel : Nat) (cs : List Value) (x : DataW H × List MemPlace),
    DataW.trod en P W 0 (fun _ => true) true fuel t cs = some x → (∀ n ∈ x.1.weights P t, n ≤ reachBytes) → ∃ b, cs = enc b ∧ ok b (Rows.uptoBulk x.1)

section
variable {P : Program} {W : World} {t : TypeId}

theorem trod_pos {H : Type} {en : TypeId × Value → H} {fuel : Nat} {cs : List Value} {x : DataW H × List MemPlace} (h : DataW.trod en P W 0 (fun _ => true) true fuel t cs = some x) : ∃ n, fuel = n + 1 := by
  cases fuel with
  | zero => simp [DataW.trod] at h
  | succ n => exact ⟨n, rfl⟩

theorem opn_int {k : IntKind} (ht : P.underlying t = some (.int k)) : Opn P W t (fun n : Int => [.int k n]) (fun n _ => (Lit.int k n).wf = true) := by
  refine ⟨fun {H} en fuel cs x hx _ => ?_⟩
  obtain ⟨n, rfl⟩ := trod_pos hx
  unfold DataW.trod at hx
  rw [ht] at hx
  split at hx <;> simp_all
theorem Opn.mono {β : Type} {enc : β → List Value} {ok ok' : β → Nat → Prop} (h : Opn P W t enc ok) (hm : ∀ b k, ok b k → ok' b k) : Opn P W t enc ok' := by
  refine ⟨fun {H} en fuel cs x hx hw => ?_⟩
  obtain ⟨b, hb, hk⟩ := h.get en fuel cs x hx hw
  exact ⟨b, hb, hm _ _ hk⟩
theorem opn_i64 (ht : P.underlying t = some (.int .i64)) : Opn P W t (fun n : Int => [.int .i64 n]) (fun n _ => -9223372036854775808 ≤ n ∧ n < 9223372036854775808) :=
  Opn.mono (opn_int ht) fun n _ h => by
    simp [Lit.wf, IntKind.min, IntKind.max, IntKind.signed, IntKind.bits] at h
    omega
theorem opn_u8 (ht : P.underlying t = some (.int .u8)) : Opn P W t (fun n : UInt8 => [bv n]) (fun _ _ => True) := by
  refine ⟨fun {H} en fuel cs x hx hw => ?_⟩
  obtain ⟨n, rfl, h⟩ := (opn_int ht).get en fuel cs x hx hw
  simp [Lit.wf, IntKind.min, IntKind.max, IntKind.signed, IntKind.bits] at h
  refine ⟨UInt8.ofNat n.toNat, ?_, trivial⟩
  unfold bv
  simp only [UInt8.toNat_ofNat', List.cons.injEq, Value.int.injEq, true_and, and_true]
  omega
theorem opn_slice {β : Type} {C : Cd β} {ok : β → Nat → Prop} (ht : P.underlying t = some (.slice C.e)) (hs : P.cellsOf C.e = C.size) (hb : P.bytesOf C.e = C.bytes) (h : Opn P W C.e C.enc ok) :
    Opn P W t (fun p : Sl × List β => [.slice p.1.a p.2.length p.1.c])
      (fun p k => RdP C (old W) p.1 p.2 ∧ p.2.length * C.bytes ≤ reachBytes ∧ p.2.length + 1 ≤ k ∧ ∀ b ∈ p.2, ∃ k', k' ≤ k ∧ ok b k') := by
  refine ⟨fun {H} en fuel cs x hx hw => ?_⟩
  rcases open_slice ht hx with ⟨rfl, rfl⟩ | ⟨a, len, cap, m, n, D, Pl, rfl, _, hl, hm, hmm, rfl, hel⟩
  · exact ⟨(⟨none, 0⟩, []), rfl, ⟨RdA.old Rd.nil⟩, by simp, by simp [Rows.uptoBulk], by simp⟩
  · simp only [if_true] at hmm
    subst hmm
    have hwt : ∀ i, i < len → ∀ n ∈ (D i).weights P C.e, n ≤ reachBytes := by
      intro i hi n hn
      refine hw n ?_
      simp only [DataW.weights, ht, List.mem_cons, List.mem_append]
      exact .inr (.inl (weights_all (List.mem_map.2 ⟨i, by simpa using hi, rfl⟩) hn))
    have hD : ∀ i, i < len → ∃ b, (W.cells? 0 (a.add (i * C.size)) C.size = some (C.enc b)) ∧ ok b (Rows.uptoBulk (D i)) := by
      intro i hi
      obtain ⟨cs', h1, h2⟩ := hel i (by omega)
      rw [hs] at h1
      obtain ⟨b, rfl, hk⟩ := h.get en n cs' _ h2 (hwt i hi)
      exact ⟨b, h1, hk⟩
    have hinh : Inhabited β := ⟨C.zero⟩
    obtain ⟨V, hV⟩ := choose_lt hD
    have hlen : ((List.range len).map V).length = len := by simp
    have hget : ∀ i, i < len → ((List.range len).map V)[i]? = some (V i) := by intro i hi; simp [hi]
    refine ⟨(⟨some a, m⟩, (List.range len).map V), by simp, ⟨RdA.old ?_⟩, ?_, ?_, ?_⟩
    · refine ⟨C.flat_len _, some a, m, rfl, by rw [hlen]; exact hl, fun h => by simp at h, fun a' ha j u hu => ?_⟩
      cases ha
      have hj : j < (C.flat ((List.range len).map V)).length := (List.getElem?_eq_some_iff.1 hu).1
      rw [C.flat_len, hlen] at hj
      have hpos : 0 < C.size := by
        rcases Nat.eq_zero_or_pos C.size with h0 | h0
        · rw [h0] at hj; omega
        · exact h0
      have hi : j / C.size < len := by
        rw [Nat.div_lt_iff_lt_mul hpos]; exact hj
      have hr : j % C.size < C.size := Nat.mod_lt _ hpos
      have e1 : j / C.size * C.size + j % C.size = j := by rw [Nat.mul_comm]; exact Nat.div_add_mod _ _
      have e2 := C.flat_get _ _ _ (hget _ hi)
      have e3 : (C.enc (V (j / C.size)))[j % C.size]? = some u := by
        rw [← e2, List.getElem?_take, if_pos hr, List.getElem?_drop, e1]
        exact hu
      obtain ⟨_, _, h3⟩ := World.cells?_some (hV _ hi).1
      have := h3 _ hr
      rw [Addr.add_add, e1] at this
      rw [this]; exact e3
    · simp only [hlen]
      have := hw ((((List.range len).map D).length + ((List.range (m - len)).map fun j => D (len + j)).length) * P.bytesOf C.e) (by
        simp only [DataW.weights, ht]
        exact List.mem_cons_self)
      simp only [List.length_map, List.length_range, hb] at this
      exact Nat.le_trans (Nat.mul_le_mul_right _ (Nat.le_add_right _ _)) this
    · simp only [hlen, Rows.uptoBulk]
      have := bulk_length ((List.range len).map D)
      simp only [List.length_map, List.length_range] at this
      omega
    · intro b hb
      simp only [List.mem_map, List.mem_range] at hb
      obtain ⟨i, hi, rfl⟩ := hb
      refine ⟨_, ?_, (hV i hi).2⟩
      have := bulk_mem (List.mem_map.2 ⟨i, by simpa using hi, rfl⟩ : D i ∈ (List.range len).map D)
      simp only [Rows.uptoBulk]
      omega

theorem opn_field {fs : Array Field} {H : Type} {en : TypeId × Value → H} {n : Nat} {cs : List Value} {xs : List (DataW H × List MemPlace)} (ht : P.underlying t = some (.struct fs))
    (hw : ∀ n ∈ (DataW.agg (xs.map (·.1))).weights P t, n ≤ reachBytes)
    (hf : ∀ (i : Nat) (f : Field), fs[i]? = some f → DataW.trod en P W 0 (fun _ => true) true n f.type ((cs.drop f.offset).take (P.cellsOf f.type)) = xs[i]?)
    (i ft off sz : Nat) (hi' : ∃ f, fs[i]? = some f ∧ f.type = ft ∧ f.offset = off) (hc : P.cellsOf ft = sz) (hl : i < xs.length) {β : Type} {enc : β → List Value} {ok : β → Nat → Prop} (h : Opn P W ft enc ok) :
    ∃ b, (cs.drop off).take sz = enc b ∧ ∃ k', k' ≤ Rows.uptoBulk (DataW.agg (xs.map (·.1))) ∧ ok b k' := by
  obtain ⟨f, hi, rfl, rfl⟩ := hi'
  subst hc
  have h1 := hf i f hi
  rw [List.getElem?_eq_getElem hl] at h1
  obtain ⟨b, hb, hk⟩ := h.get en n _ _ h1 fun m hm => hw m (by
    simp only [DataW.weights, ht]
    exact DataW.weights_mem_each (j := i) (t := f.type) (d := xs[i].1) (by simp [hi]) (by simp [hl]) m hm)
  refine ⟨b, hb, _, ?_, hk⟩
  have := bulk_mem (List.mem_map.2 ⟨xs[i], List.getElem_mem hl, rfl⟩ : xs[i].1 ∈ xs.map (·.1))
  simp only [Rows.uptoBulk]
  omega

theorem opn_arg {β : Type} {enc : β → List Value} {ok : β → Nat → Prop} (h : Opn P W t enc ok) {H : Type} {en : TypeId × Value → H} {v : Value} {d : DataW H} {p : List MemPlace} (hd : DataW.Trod en P W 0 (fun _ => true) true t v d p)
    (hw : ∀ n ∈ d.weights P t, n ≤ reachBytes) : ∃ b, v.cells.toList = enc b ∧ ok b (Rows.uptoBulk d) := by
  obtain ⟨fuel, hf⟩ := hd
  exact h.get en fuel _ _ hf hw
end

theorem walk_end {P : Program} {f : FuncId} {args : Array Value} {W : World} (h : Calls P f args W (retP fun v w => v = .bool true ∧ Sat W w [old W])) : Calls P f args W fun e W' => e = .returned (.bool true) ∧ Below W.heap.size W W' :=
  h.mono fun e w he => by
    cases e with
    | returned v => obtain ⟨rfl, hS⟩ := he; exact ⟨rfl, hS.below 0 rfl⟩
    | panicked c => exact he.elim
    | outgrown => exact he.elim

theorem cells_one {v u : Value} (h : v.cells.toList = [u]) (hv : v.oneCell' = true) : v = u := by
  cases v <;> first | (simp [Value.cells] at h; exact h) | cases hv
theorem cells_agg {cs : Array Value} {l : List Value} (h : (Value.agg cs).cells.toList = l) : Value.agg cs = .agg l.toArray := by
  simp only [Value.cells] at h
  rw [← h]

end Go.Proofs.YtbgnnjfpiblkmaaGreatDoor

namespace Go.Proofs.YtbgnnjfpiblkmaaGreatDoor
open Go Go.RowKit Go.ChangeShapes

instance sc_3 : Sc Tryz.prog 3 := ⟨Tryz.isAgg3, Tryz.sizeOf3⟩
instance sc_4 : Sc Tryz.prog 4 := ⟨Tryz.isAgg4, Tryz.sizeOf4⟩
instance sc_5 : Sc Tryz.prog 5 := ⟨Tryz.isAgg5, Tryz.sizeOf5⟩
instance sc_9 : Sc Tryz.prog 9 := ⟨Tryz.isAgg9, Tryz.sizeOf9⟩
instance sc_20 : Sc Tryz.prog 20 := ⟨Tryz.isAgg20, Tryz.sizeOf20⟩
instance ag_23 : Ag Tryz.prog 23 3 := ⟨Tryz.isAgg23, Tryz.sizeOf23⟩
instance sc_30 : Sc Tryz.prog 30 := ⟨Tryz.isAgg30, Tryz.sizeOf30⟩
instance ag_35 : Ag Tryz.prog 35 4 := ⟨Tryz.isAgg35, Tryz.sizeOf35⟩
instance sc_36 : Sc Tryz.prog 36 := ⟨Tryz.isAgg36, Tryz.sizeOf36⟩
instance sc_37 : Sc Tryz.prog 37 := ⟨Tryz.isAgg37, Tryz.sizeOf37⟩
instance sc_38 : Sc Tryz.prog 38 := ⟨Tryz.isAgg38, Tryz.sizeOf38⟩
instance sc_41 : Sc Tryz.prog 41 := ⟨Tryz.isAgg41, Tryz.sizeOf41⟩
instance ag_48 : Ag Tryz.prog 48 4 := ⟨Tryz.isAgg48, Tryz.sizeOf48⟩
instance ag_50 : Ag Tryz.prog 50 10 := ⟨Tryz.isAgg50, Tryz.sizeOf50⟩
instance sc_66 : Sc Tryz.prog 66 := ⟨Tryz.isAgg66, Tryz.sizeOf66⟩
instance ag_67 : Ag Tryz.prog 67 4 := ⟨Tryz.isAgg67, Tryz.sizeOf67⟩
instance ag_69 : Ag Tryz.prog 69 5 := ⟨Tryz.isAgg69, Tryz.sizeOf69⟩
instance sc_70 : Sc Tryz.prog 70 := ⟨Tryz.isAgg70, Tryz.sizeOf70⟩
instance sc_71 : Sc Tryz.prog 71 := ⟨Tryz.isAgg71, Tryz.sizeOf71⟩
instance ag_73 : Ag Tryz.prog 73 11 := ⟨Tryz.isAgg73, Tryz.sizeOf73⟩
instance sc_75 : Sc Tryz.prog 75 := ⟨Tryz.isAgg75, Tryz.sizeOf75⟩
instance sc_76 : Sc Tryz.prog 76 := ⟨Tryz.isAgg76, Tryz.sizeOf76⟩
instance sc_77 : Sc Tryz.prog 77 := ⟨Tryz.isAgg77, Tryz.sizeOf77⟩
instance ag_79 : Ag Tryz.prog 79 12 := ⟨Tryz.isAgg79, Tryz.sizeOf79⟩
instance sc_80 : Sc Tryz.prog 80 := ⟨Tryz.isAgg80, Tryz.sizeOf80⟩
instance sc_85 : Sc Tryz.prog 85 := ⟨Tryz.isAgg85, Tryz.sizeOf85⟩
instance sc_97 : Sc Tryz.prog 97 := ⟨Tryz.isAgg97, Tryz.sizeOf97⟩
instance ag_100 : Ag Tryz.prog 100 5 := ⟨Tryz.isAgg100, Tryz.sizeOf100⟩
instance sc_114 : Sc Tryz.prog 114 := ⟨Tryz.isAgg114, Tryz.sizeOf114⟩
instance sc_123 : Sc Tryz.prog 123 := ⟨Tryz.isAgg123, Tryz.sizeOf123⟩
instance sc_125 : Sc Tryz.prog 125 := ⟨Tryz.isAgg125, Tryz.sizeOf125⟩
instance ag_128 : Ag Tryz.prog 128 3 := ⟨Tryz.isAgg128, Tryz.sizeOf128⟩
instance ag_136 : Ag Tryz.prog 136 1 := ⟨Tryz.isAgg136, Tryz.sizeOf136⟩
instance sc_137 : Sc Tryz.prog 137 := ⟨Tryz.isAgg137, Tryz.sizeOf137⟩
instance ag_139 : Ag Tryz.prog 139 4 := ⟨Tryz.isAgg139, Tryz.sizeOf139⟩
instance ag_141 : Ag Tryz.prog 141 26 := ⟨Tryz.isAgg141, Tryz.sizeOf141⟩
instance sc_148 : Sc Tryz.prog 148 := ⟨Tryz.isAgg148, Tryz.sizeOf148⟩
instance sc_150 : Sc Tryz.prog 150 := ⟨Tryz.isAgg150, Tryz.sizeOf150⟩
instance ag_155 : Ag Tryz.prog 155 1 := ⟨Tryz.isAgg155, Tryz.sizeOf155⟩
instance sc_156 : Sc Tryz.prog 156 := ⟨Tryz.isAgg156, Tryz.sizeOf156⟩
instance sc_169 : Sc Tryz.prog 169 := ⟨Tryz.isAgg169, Tryz.sizeOf169⟩
instance ag_175 : Ag Tryz.prog 175 4 := ⟨Tryz.isAgg175, Tryz.sizeOf175⟩
instance sc_180 : Sc Tryz.prog 180 := ⟨Tryz.isAgg180, Tryz.sizeOf180⟩
instance ag_182 : Ag Tryz.prog 182 4 := ⟨Tryz.isAgg182, Tryz.sizeOf182⟩
instance sc_188 : Sc Tryz.prog 188 := ⟨Tryz.isAgg188, Tryz.sizeOf188⟩
instance ag_190 : Ag Tryz.prog 190 5 := ⟨Tryz.isAgg190, Tryz.sizeOf190⟩
instance sc_197 : Sc Tryz.prog 197 := ⟨Tryz.isAgg197, Tryz.sizeOf197⟩
instance sc_217 : Sc Tryz.prog 217 := ⟨Tryz.isAgg217, Tryz.sizeOf217⟩
instance ag_219 : Ag Tryz.prog 219 2 := ⟨Tryz.isAgg219, Tryz.sizeOf219⟩
instance ag_224 : Ag Tryz.prog 224 3 := ⟨Tryz.isAgg224, Tryz.sizeOf224⟩
instance ag_226 : Ag Tryz.prog 226 4 := ⟨Tryz.isAgg226, Tryz.sizeOf226⟩
instance sc_230 : Sc Tryz.prog 230 := ⟨Tryz.isAgg230, Tryz.sizeOf230⟩
instance ag_233 : Ag Tryz.prog 233 3 := ⟨Tryz.isAgg233, Tryz.sizeOf233⟩
instance ag_234 : Ag Tryz.prog 234 12 := ⟨Tryz.isAgg234, Tryz.sizeOf234⟩
instance ag_254 : Ag Tryz.prog 254 1 := ⟨Tryz.isAgg254, Tryz.sizeOf254⟩
instance ag_272 : Ag Tryz.prog 272 4 := ⟨Tryz.isAgg272, Tryz.sizeOf272⟩
instance sc_296 : Sc Tryz.prog 296 := ⟨Tryz.isAgg296, Tryz.sizeOf296⟩
instance ag_297 : Ag Tryz.prog 297 32 := ⟨Tryz.isAgg297, Tryz.sizeOf297⟩
instance ag_298 : Ag Tryz.prog 298 64 := ⟨Tryz.isAgg298, Tryz.sizeOf298⟩
instance zv_3 : Zv Tryz.prog 3 [(.int .i64 0)] := ⟨_, Tryz.zeroValue3, rfl⟩
instance zv_4 : Zv Tryz.prog 4 [(.bool false)] := ⟨_, Tryz.zeroValue4, rfl⟩
instance zv_5 : Zv Tryz.prog 5 [(bv 0)] := ⟨_, Tryz.zeroValue5, rfl⟩
instance zv_9 : Zv Tryz.prog 9 [(.string ⟨#[]⟩)] := ⟨_, Tryz.zeroValue9, rfl⟩
instance zv_20 : Zv Tryz.prog 20 [.nilIface] := ⟨_, Tryz.zeroValue20, rfl⟩
instance zv_23 : Zv Tryz.prog 23 [(.int .i64 0), (.int .i64 0), (.int .i64 0)] := ⟨_, Tryz.zeroValue23, rfl⟩
instance zv_30 : Zv Tryz.prog 30 [(.slice none 0 0)] := ⟨_, Tryz.zeroValue30, rfl⟩
instance zv_35 : Zv Tryz.prog 35 [(.int .i64 0), (.int .i64 0), (.int .i64 0), (.int .i64 0)] := ⟨_, Tryz.zeroValue35, rfl⟩
instance zv_36 : Zv Tryz.prog 36 [(.slice none 0 0)] := ⟨_, Tryz.zeroValue36, rfl⟩
instance zv_37 : Zv Tryz.prog 37 [(.pointer none)] := ⟨_, Tryz.zeroValue37, rfl⟩
instance zv_38 : Zv Tryz.prog 38 [(.int .i64 0)] := ⟨_, Tryz.zeroValue38, rfl⟩
instance zv_41 : Zv Tryz.prog 41 [(.pointer none)] := ⟨_, Tryz.zeroValue41, rfl⟩
instance zv_48 : Zv Tryz.prog 48 [(.int .i64 0), (bv 0), (.int .i64 0), (.int .i64 0)] := ⟨_, Tryz.zeroValue48, rfl⟩
instance zv_50 : Zv Tryz.prog 50 [(.int .i64 0), (.int .i64 0), (.int .i64 0), (bv 0), (.int .i64 0), (.int .i64 0), (.slice none 0 0), (.int .i64 0), (.int .i64 0), (.int .i64 0)] := ⟨_, Tryz.zeroValue50, rfl⟩
instance zv_66 : Zv Tryz.prog 66 [(.pointer none)] := ⟨_, Tryz.zeroValue66, rfl⟩
instance zv_67 : Zv Tryz.prog 67 [(.int .i64 0), (.int .i64 0), (.int .i64 0), (.int .i64 0)] := ⟨_, Tryz.zeroValue67, rfl⟩
instance zv_69 : Zv Tryz.prog 69 [(.int .i64 0), (.int .i64 0), (.int .i64 0), (.int .i64 0), (.int .i64 0)] := ⟨_, Tryz.zeroValue69, rfl⟩
instance zv_70 : Zv Tryz.prog 70 [(.map none)] := ⟨_, Tryz.zeroValue70, rfl⟩
instance zv_71 : Zv Tryz.prog 71 [(.pointer none)] := ⟨_, Tryz.zeroValue71, rfl⟩
instance zv_73 : Zv Tryz.prog 73 [(.int .i64 0), (.int .i64 0), (.int .i64 0), (.pointer none), (.int .i64 0), (.int .i64 0), (.int .i64 0), (.int .i64 0), (.int .i64 0), (.map none), (.pointer none)] := ⟨_, Tryz.zeroValue73, rfl⟩
instance zv_75 : Zv Tryz.prog 75 [(.pointer none)] := ⟨_, Tryz.zeroValue75, rfl⟩
instance zv_76 : Zv Tryz.prog 76 [(.pointer none)] := ⟨_, Tryz.zeroValue76, rfl⟩
instance zv_77 : Zv Tryz.prog 77 [(.map none)] := ⟨_, Tryz.zeroValue77, rfl⟩
instance zv_79 : Zv Tryz.prog 79 [(.pointer none), (.int .i64 0), (.int .i64 0), (.int .i64 0), (.int .i64 0), (.int .i64 0), (.int .i64 0), (.int .i64 0), (.int .i64 0), (.slice none 0 0), (.map none), (.bool false)] := ⟨_, Tryz.zeroValue79, rfl⟩
instance zv_80 : Zv Tryz.prog 80 [(.slice none 0 0)] := ⟨_, Tryz.zeroValue80, rfl⟩
instance zv_85 : Zv Tryz.prog 85 [(.pointer none)] := ⟨_, Tryz.zeroValue85, rfl⟩
instance zv_97 : Zv Tryz.prog 97 [(.pointer none)] := ⟨_, Tryz.zeroValue97, rfl⟩
instance zv_100 : Zv Tryz.prog 100 [(.int .i64 0), (.int .i64 0), (.int .i64 0), (.int .i64 0), (.int .i64 0)] := ⟨_, Tryz.zeroValue100, rfl⟩
instance zv_114 : Zv Tryz.prog 114 [(.pointer none)] := ⟨_, Tryz.zeroValue114, rfl⟩
instance zv_123 : Zv Tryz.prog 123 [(.pointer none)] := ⟨_, Tryz.zeroValue123, rfl⟩
instance zv_125 : Zv Tryz.prog 125 [(.pointer none)] := ⟨_, Tryz.zeroValue125, rfl⟩
instance zv_128 : Zv Tryz.prog 128 [(.pointer none), (.pointer none), (.pointer none)] := ⟨_, Tryz.zeroValue128, rfl⟩
instance zv_136 : Zv Tryz.prog 136 [(.pointer none)] := ⟨_, Tryz.zeroValue136, rfl⟩
instance zv_137 : Zv Tryz.prog 137 [(.pointer none)] := ⟨_, Tryz.zeroValue137, rfl⟩
instance zv_139 : Zv Tryz.prog 139 [(.pointer none), (.pointer none), (.pointer none), (.pointer none)] := ⟨_, Tryz.zeroValue139, rfl⟩
instance zv_141 : Zv Tryz.prog 141 [(.int .i64 0), (.int .i64 0), (.int .i64 0), (.int .i64 0), (.int .i64 0), (.int .i64 0), (.int .i64 0), (.int .i64 0), (.pointer none), (.pointer none), (.pointer none), (.pointer none), (.pointer none), (.pointer none), (.pointer none), (.pointer none), (.pointer none), (.pointer none), (.pointer none), (.pointer none), (.pointer none), (.pointer none), (.pointer none), (.pointer none), (.pointer none), (.pointer none)] := ⟨_, Tryz.zeroValue141, rfl⟩
instance zv_148 : Zv Tryz.prog 148 [(.int .u32 0)] := ⟨_, Tryz.zeroValue148, rfl⟩
instance zv_150 : Zv Tryz.prog 150 [(.pointer none)] := ⟨_, Tryz.zeroValue150, rfl⟩
instance zv_155 : Zv Tryz.prog 155 [(.int .i64 0)] := ⟨_, Tryz.zeroValue155, rfl⟩
instance zv_156 : Zv Tryz.prog 156 [(.pointer none)] := ⟨_, Tryz.zeroValue156, rfl⟩
instance zv_169 : Zv Tryz.prog 169 [(.int .u64 0)] := ⟨_, Tryz.zeroValue169, rfl⟩
instance zv_175 : Zv Tryz.prog 175 [(.int .i64 0), (.slice none 0 0), (.int .i64 0), (.int .i64 0)] := ⟨_, Tryz.zeroValue175, rfl⟩
instance zv_180 : Zv Tryz.prog 180 [(.pointer none)] := ⟨_, Tryz.zeroValue180, rfl⟩
instance zv_182 : Zv Tryz.prog 182 [(.pointer none), (.pointer none), (.bool false), (.bool false)] := ⟨_, Tryz.zeroValue182, rfl⟩
instance zv_188 : Zv Tryz.prog 188 [(.int .u64 0)] := ⟨_, Tryz.zeroValue188, rfl⟩
instance zv_190 : Zv Tryz.prog 190 [(.int .u64 0), (.int .u32 0), (bv 0), (.int .i64 0), (.slice none 0 0)] := ⟨_, Tryz.zeroValue190, rfl⟩
instance zv_197 : Zv Tryz.prog 197 [.nilIface] := ⟨_, Tryz.zeroValue197, rfl⟩
instance zv_217 : Zv Tryz.prog 217 [(.slice none 0 0)] := ⟨_, Tryz.zeroValue217, rfl⟩
instance zv_219 : Zv Tryz.prog 219 [(.int .i64 0), (.slice none 0 0)] := ⟨_, Tryz.zeroValue219, rfl⟩
instance zv_224 : Zv Tryz.prog 224 [(.int .i64 0), (.int .u32 0), (.int .u32 0)] := ⟨_, Tryz.zeroValue224, rfl⟩
instance zv_226 : Zv Tryz.prog 226 [(.slice none 0 0), (.int .i64 0), (.int .u32 0), (.int .u32 0)] := ⟨_, Tryz.zeroValue226, rfl⟩
instance zv_230 : Zv Tryz.prog 230 [(.pointer none)] := ⟨_, Tryz.zeroValue230, rfl⟩
instance zv_233 : Zv Tryz.prog 233 [(.pointer none), (.pointer none), (.bool false)] := ⟨_, Tryz.zeroValue233, rfl⟩
instance zv_234 : Zv Tryz.prog 234 [(.int .i64 0), (.int .i64 0), (.int .i64 0), (.int .i64 0), (.int .i64 0), (.int .i64 0), (.int .i64 0), (.int .i64 0), (.int .i64 0), (.int .i64 0), (.int .i64 0), (.int .i64 0)] := ⟨_, Tryz.zeroValue234, rfl⟩
instance zv_254 : Zv Tryz.prog 254 [(.slice none 0 0)] := ⟨_, Tryz.zeroValue254, rfl⟩
instance zv_272 : Zv Tryz.prog 272 [(.slice none 0 0), (.int .i64 0), (.int .i64 0), (.int .i64 0)] := ⟨_, Tryz.zeroValue272, rfl⟩
instance zv_296 : Zv Tryz.prog 296 [.nilFunc] := ⟨_, Tryz.zeroValue296, rfl⟩
instance zv_297 : Zv Tryz.prog 297 [(bv 0), (bv 0), (bv 0), (bv 0), (bv 0), (bv 0), (bv 0), (bv 0), (bv 0), (bv 0), (bv 0), (bv 0), (bv 0), (bv 0), (bv 0), (bv 0), (bv 0), (bv 0), (bv 0), (bv 0), (bv 0), (bv 0), (bv 0), (bv 0), (bv 0), (bv 0), (bv 0), (bv 0), (bv 0), (bv 0), (bv 0), (bv 0)] := ⟨_, Tryz.zeroValue297, rfl⟩
structure T_api_Props where
  LC : Int
  LP : Int
  PB : Int
def T_api_Props.zero : T_api_Props := ⟨0, 0, 0⟩
def T_api_Props.enc (b : T_api_Props) : List Value := [.int .i64 b.LC, .int .i64 b.LP, .int .i64 b.PB]
structure T_pithlaw14_Setup where
  Props : T_api_Props
  Dict : Int
def T_pithlaw14_Setup.zero : T_pithlaw14_Setup := ⟨T_api_Props.zero, 0⟩
def T_pithlaw14_Setup.enc (b : T_pithlaw14_Setup) : List Value := b.Props.enc ++ [.int .i64 b.Dict]
structure T_api_Symbol where
  Kind : Int
  Byte : UInt8
  Len : Int
  Dist : Int
def T_api_Symbol.zero : T_api_Symbol := ⟨0, 0, 0, 0⟩
def T_api_Symbol.enc (b : T_api_Symbol) : List Value := [.int .i64 b.Kind, bv b.Byte, .int .i64 b.Len, .int .i64 b.Dist]
structure T_pithlaw14_Step where
  Which : Int
  Kind : Int
  Sym : T_api_Symbol
  Raw : (Sl × List UInt8)
  Props : T_api_Props
def T_pithlaw14_Step.zero : T_pithlaw14_Step := ⟨0, 0, T_api_Symbol.zero, (⟨none, 0⟩, []), T_api_Props.zero⟩
def T_pithlaw14_Step.enc (b : T_pithlaw14_Step) : List Value := [.int .i64 b.Which] ++ [.int .i64 b.Kind] ++ b.Sym.enc ++ [.slice b.Raw.1.a b.Raw.2.length b.Raw.1.c] ++ b.Props.enc
def cd_int : Cd Int := { e := 3, size := 1, bytes := 8, zero := 0, enc := fun b => [.int .i64 b], len := fun _ => rfl, one := by intro b u hu; simp only [List.mem_cons, List.not_mem_nil, or_false] at hu; subst hu; rfl }
instance bt_int : Bt cd_int 8 := ⟨rfl⟩
def cd_uint8 : Cd UInt8 := { e := 5, size := 1, bytes := 1, zero := 0, enc := fun b => [bv b], len := fun _ => rfl, one := by intro b u hu; simp only [List.mem_cons, List.not_mem_nil, or_false] at hu; subst hu; rfl }
instance bt_uint8 : Bt cd_uint8 1 := ⟨rfl⟩
def cd_api_Props : Cd T_api_Props := { e := 23, size := 3, bytes := 24, zero := T_api_Props.zero, enc := T_api_Props.enc, len := fun _ => rfl, one := by intro b u hu; simp only [T_api_Props.enc, T_api_Symbol.enc, T_pithlaw14_Setup.enc, T_pithlaw14_Step.enc, List.mem_cons, List.mem_append, List.not_mem_nil, or_false] at hu; rcases hu with rfl|rfl|rfl <;> rfl }
instance bt_api_Props : Bt cd_api_Props 24 := ⟨rfl⟩
def cd_pithlaw14_Setup : Cd T_pithlaw14_Setup := { e := 35, size := 4, bytes := 32, zero := T_pithlaw14_Setup.zero, enc := T_pithlaw14_Setup.enc, len := fun _ => rfl, one := by intro b u hu; simp only [T_api_Props.enc, T_api_Symbol.enc, T_pithlaw14_Setup.enc, T_pithlaw14_Step.enc, List.mem_cons, List.mem_append, List.not_mem_nil, or_false] at hu; repeat (first | (subst hu; rfl) | (rcases hu with hu | hu)) }
instance bt_pithlaw14_Setup : Bt cd_pithlaw14_Setup 32 := ⟨rfl⟩
def cd_api_Symbol : Cd T_api_Symbol := { e := 48, size := 4, bytes := 32, zero := T_api_Symbol.zero, enc := T_api_Symbol.enc, len := fun _ => rfl, one := by intro b u hu; simp only [T_api_Props.enc, T_api_Symbol.enc, T_pithlaw14_Setup.enc, T_pithlaw14_Step.enc, List.mem_cons, List.mem_append, List.not_mem_nil, or_false] at hu; rcases hu with rfl|rfl|rfl|rfl <;> rfl }
instance bt_api_Symbol : Bt cd_api_Symbol 32 := ⟨rfl⟩
def cd_pithlaw14_Step : Cd T_pithlaw14_Step := { e := 50, size := 10, bytes := 96, zero := T_pithlaw14_Step.zero, enc := T_pithlaw14_Step.enc, len := fun _ => rfl, one := by intro b u hu; simp only [T_api_Props.enc, T_api_Symbol.enc, T_pithlaw14_Setup.enc, T_pithlaw14_Step.enc, List.mem_cons, List.mem_append, List.not_mem_nil, or_false] at hu; repeat (first | (subst hu; rfl) | (rcases hu with hu | hu)) }
instance bt_pithlaw14_Step : Bt cd_pithlaw14_Step 96 := ⟨rfl⟩
instance row_30 : Row Tryz.prog 30 UInt8 cd_uint8 := ⟨⟨(.int .u8 0), ⟨Tryz.underlying30, info_parts (by kernel_rfl), rfl, by decide⟩, rfl⟩, by decide⟩
instance row_36 : Row Tryz.prog 36 T_pithlaw14_Step cd_pithlaw14_Step := ⟨⟨(.agg #[(.int .i64 0), (.int .i64 0), (.int .i64 0), (.int .u8 0), (.int .i64 0), (.int .i64 0), (.slice none 0 0), (.int .i64 0), (.int .i64 0), (.int .i64 0)]), ⟨Tryz.underlying36, info_parts (by kernel_rfl), rfl, by decide⟩, rfl⟩, by decide⟩
instance row_80 : Row Tryz.prog 80 T_api_Symbol cd_api_Symbol := ⟨⟨(.agg #[(.int .i64 0), (.int .u8 0), (.int .i64 0), (.int .i64 0)]), ⟨Tryz.underlying80, info_parts (by kernel_rfl), rfl, by decide⟩, rfl⟩, by decide⟩
instance row_217 : Row Tryz.prog 217 Int cd_int := ⟨⟨(.int .i64 0), ⟨Tryz.underlying217, info_parts (by kernel_rfl), rfl, by decide⟩, rfl⟩, by decide⟩
section
variable [Pan] {w : World} {K : Value → World → Prop} {J : Value → Prop}
instance fa_23_0 : FA Tryz.prog 23 0 0 := ⟨fun a w => by kernel_rfl⟩
instance fa_23_1 : FA Tryz.prog 23 1 1 := ⟨fun a w => by kernel_rfl⟩
instance fa_23_2 : FA Tryz.prog 23 2 2 := ⟨fun a w => by kernel_rfl⟩
instance fa_35_0 : FA Tryz.prog 35 0 0 := ⟨fun a w => by kernel_rfl⟩
instance fa_35_1 : FA Tryz.prog 35 1 3 := ⟨fun a w => by kernel_rfl⟩
instance fa_48_0 : FA Tryz.prog 48 0 0 := ⟨fun a w => by kernel_rfl⟩
instance fa_48_1 : FA Tryz.prog 48 1 1 := ⟨fun a w => by kernel_rfl⟩
instance fa_48_2 : FA Tryz.prog 48 2 2 := ⟨fun a w => by kernel_rfl⟩
instance fa_48_3 : FA Tryz.prog 48 3 3 := ⟨fun a w => by kernel_rfl⟩
instance fa_50_1 : FA Tryz.prog 50 1 1 := ⟨fun a w => by kernel_rfl⟩
instance fa_50_2 : FA Tryz.prog 50 2 2 := ⟨fun a w => by kernel_rfl⟩
instance fa_50_3 : FA Tryz.prog 50 3 6 := ⟨fun a w => by kernel_rfl⟩
instance fa_50_4 : FA Tryz.prog 50 4 7 := ⟨fun a w => by kernel_rfl⟩
instance fa_73_3 : FA Tryz.prog 73 3 9 := ⟨fun a w => by kernel_rfl⟩
instance fa_79_0 : FA Tryz.prog 79 0 0 := ⟨fun a w => by kernel_rfl⟩
instance fa_79_1 : FA Tryz.prog 79 1 1 := ⟨fun a w => by kernel_rfl⟩
instance fa_79_2 : FA Tryz.prog 79 2 4 := ⟨fun a w => by kernel_rfl⟩
instance fa_79_3 : FA Tryz.prog 79 3 5 := ⟨fun a w => by kernel_rfl⟩
instance fa_79_4 : FA Tryz.prog 79 4 9 := ⟨fun a w => by kernel_rfl⟩
instance fa_79_5 : FA Tryz.prog 79 5 10 := ⟨fun a w => by kernel_rfl⟩
instance fa_79_6 : FA Tryz.prog 79 6 11 := ⟨fun a w => by kernel_rfl⟩
instance fa_100_0 : FA Tryz.prog 100 0 0 := ⟨fun a w => by kernel_rfl⟩
instance fa_100_1 : FA Tryz.prog 100 1 1 := ⟨fun a w => by kernel_rfl⟩
instance fa_128_0 : FA Tryz.prog 128 0 0 := ⟨fun a w => by kernel_rfl⟩
instance fa_128_1 : FA Tryz.prog 128 1 1 := ⟨fun a w => by kernel_rfl⟩
instance fa_128_2 : FA Tryz.prog 128 2 2 := ⟨fun a w => by kernel_rfl⟩
instance fa_136_0 : FA Tryz.prog 136 0 0 := ⟨fun a w => by kernel_rfl⟩
instance fa_139_0 : FA Tryz.prog 139 0 0 := ⟨fun a w => by kernel_rfl⟩
instance fa_139_1 : FA Tryz.prog 139 1 1 := ⟨fun a w => by kernel_rfl⟩
instance fa_139_2 : FA Tryz.prog 139 2 2 := ⟨fun a w => by kernel_rfl⟩
instance fa_139_3 : FA Tryz.prog 139 3 3 := ⟨fun a w => by kernel_rfl⟩
instance fa_141_0 : FA Tryz.prog 141 0 0 := ⟨fun a w => by kernel_rfl⟩
instance fa_141_1 : FA Tryz.prog 141 1 3 := ⟨fun a w => by kernel_rfl⟩
instance fa_141_2 : FA Tryz.prog 141 2 8 := ⟨fun a w => by kernel_rfl⟩
instance fa_141_3 : FA Tryz.prog 141 3 9 := ⟨fun a w => by kernel_rfl⟩
instance fa_141_4 : FA Tryz.prog 141 4 10 := ⟨fun a w => by kernel_rfl⟩
instance fa_141_5 : FA Tryz.prog 141 5 11 := ⟨fun a w => by kernel_rfl⟩
instance fa_141_6 : FA Tryz.prog 141 6 12 := ⟨fun a w => by kernel_rfl⟩
instance fa_141_7 : FA Tryz.prog 141 7 13 := ⟨fun a w => by kernel_rfl⟩
instance fa_141_8 : FA Tryz.prog 141 8 14 := ⟨fun a w => by kernel_rfl⟩
instance fa_141_9 : FA Tryz.prog 141 9 15 := ⟨fun a w => by kernel_rfl⟩
instance fa_141_10 : FA Tryz.prog 141 10 19 := ⟨fun a w => by kernel_rfl⟩
instance fa_141_11 : FA Tryz.prog 141 11 23 := ⟨fun a w => by kernel_rfl⟩
instance fa_141_12 : FA Tryz.prog 141 12 24 := ⟨fun a w => by kernel_rfl⟩
instance fa_141_13 : FA Tryz.prog 141 13 25 := ⟨fun a w => by kernel_rfl⟩
instance fa_155_0 : FA Tryz.prog 155 0 0 := ⟨fun a w => by kernel_rfl⟩
instance fa_175_0 : FA Tryz.prog 175 0 0 := ⟨fun a w => by kernel_rfl⟩
instance fa_175_1 : FA Tryz.prog 175 1 1 := ⟨fun a w => by kernel_rfl⟩
instance fa_175_2 : FA Tryz.prog 175 2 2 := ⟨fun a w => by kernel_rfl⟩
instance fa_175_3 : FA Tryz.prog 175 3 3 := ⟨fun a w => by kernel_rfl⟩
instance fa_182_0 : FA Tryz.prog 182 0 0 := ⟨fun a w => by kernel_rfl⟩
instance fa_182_1 : FA Tryz.prog 182 1 1 := ⟨fun a w => by kernel_rfl⟩
instance fa_182_2 : FA Tryz.prog 182 2 2 := ⟨fun a w => by kernel_rfl⟩
instance fa_190_0 : FA Tryz.prog 190 0 0 := ⟨fun a w => by kernel_rfl⟩
instance fa_190_1 : FA Tryz.prog 190 1 1 := ⟨fun a w => by kernel_rfl⟩
instance fa_190_2 : FA Tryz.prog 190 2 2 := ⟨fun a w => by kernel_rfl⟩
instance fa_190_3 : FA Tryz.prog 190 3 3 := ⟨fun a w => by kernel_rfl⟩
instance fa_190_4 : FA Tryz.prog 190 4 4 := ⟨fun a w => by kernel_rfl⟩
instance fa_219_1 : FA Tryz.prog 219 1 1 := ⟨fun a w => by kernel_rfl⟩
instance fa_224_0 : FA Tryz.prog 224 0 0 := ⟨fun a w => by kernel_rfl⟩
instance fa_224_1 : FA Tryz.prog 224 1 1 := ⟨fun a w => by kernel_rfl⟩
instance fa_224_2 : FA Tryz.prog 224 2 2 := ⟨fun a w => by kernel_rfl⟩
instance fa_226_0 : FA Tryz.prog 226 0 0 := ⟨fun a w => by kernel_rfl⟩
instance fa_226_1 : FA Tryz.prog 226 1 1 := ⟨fun a w => by kernel_rfl⟩
instance fa_233_1 : FA Tryz.prog 233 1 1 := ⟨fun a w => by kernel_rfl⟩
instance fa_233_2 : FA Tryz.prog 233 2 2 := ⟨fun a w => by kernel_rfl⟩
instance fa_254_0 : FA Tryz.prog 254 0 0 := ⟨fun a w => by kernel_rfl⟩
instance fa_272_0 : FA Tryz.prog 272 0 0 := ⟨fun a w => by kernel_rfl⟩
instance fa_272_1 : FA Tryz.prog 272 1 1 := ⟨fun a w => by kernel_rfl⟩
instance fa_272_2 : FA Tryz.prog 272 2 2 := ⟨fun a w => by kernel_rfl⟩
instance fa_272_3 : FA Tryz.prog 272 3 3 := ⟨fun a w => by kernel_rfl⟩
instance tob_3_5 : ToB Tryz.prog 3 5 := ⟨fun _ k n => run_conv_int k Tryz.underlying3 Tryz.underlying5 n⟩
instance ofb_5_3 : OfB Tryz.prog 5 3 .i64 := ⟨fun _ k n => run_conv_int k Tryz.underlying5 Tryz.underlying3 n, fun n h1 h2 => wrap_i64 (by omega)⟩
instance ofb_5_148 : OfB Tryz.prog 5 148 .u32 := ⟨fun _ k n => run_conv_int k Tryz.underlying5 Tryz.underlying148 n, fun n h1 h2 => w_u32 (by omega)⟩
instance strt_30_9 : StrT Tryz.prog 30 9 cd_uint8 := ⟨⟨_, Tryz.underlying30, Tryz.underlying5⟩, Tryz.underlying9, rfl, fun _ => rfl⟩
instance tob_148_5 : ToB Tryz.prog 148 5 := ⟨fun _ k n => run_conv_int k Tryz.underlying148 Tryz.underlying5 n⟩
instance tob_188_5 : ToB Tryz.prog 188 5 := ⟨fun _ k n => run_conv_int k Tryz.underlying188 Tryz.underlying5 n⟩
theorem pN_shl_3_u64_4 (xo yo : Operand) (a : Int) : pN Tryz.prog (oBin .shl 3 xo yo (.int .i64 a) (.int .u64 4)) w K = K (.int .i64 (IntKind.wrap .i64 (a * 16))) w := pN_shln 4 4 16 rfl (by decide) (by decide)
theorem pA_shl_3_u64_4 (xo yo : Operand) (a : Int) : pA Tryz.prog (oBin .shl 3 xo yo (.int .i64 a) (.int .u64 4)) J = J (.int .i64 (IntKind.wrap .i64 (a * 16))) := pA_shln 4 4 16 rfl (by decide) (by decide)
theorem pN_shl_148_u64_1 (xo yo : Operand) (a : Int) : pN Tryz.prog (oBin .shl 148 xo yo (.int .u32 a) (.int .u64 1)) w K = K (.int .u32 (IntKind.wrap .u32 (a * 2))) w := pN_shln 1 1 2 rfl (by decide) (by decide)
theorem pA_shl_148_u64_1 (xo yo : Operand) (a : Int) : pA Tryz.prog (oBin .shl 148 xo yo (.int .u32 a) (.int .u64 1)) J = J (.int .u32 (IntKind.wrap .u32 (a * 2))) := pA_shln 1 1 2 rfl (by decide) (by decide)
theorem pN_shl_148_u64_8 (xo yo : Operand) (a : Int) : pN Tryz.prog (oBin .shl 148 xo yo (.int .u32 a) (.int .u64 8)) w K = K (.int .u32 (IntKind.wrap .u32 (a * 256))) w := pN_shln 8 8 256 rfl (by decide) (by decide)
theorem pA_shl_148_u64_8 (xo yo : Operand) (a : Int) : pA Tryz.prog (oBin .shl 148 xo yo (.int .u32 a) (.int .u64 8)) J = J (.int .u32 (IntKind.wrap .u32 (a * 256))) := pA_shln 8 8 256 rfl (by decide) (by decide)
theorem pN_shl_188_u64_8 (xo yo : Operand) (a : Int) : pN Tryz.prog (oBin .shl 188 xo yo (.int .u64 a) (.int .u64 8)) w K = K (.int .u64 (IntKind.wrap .u64 (a * 256))) w := pN_shln 8 8 256 rfl (by decide) (by decide)
theorem pA_shl_188_u64_8 (xo yo : Operand) (a : Int) : pA Tryz.prog (oBin .shl 188 xo yo (.int .u64 a) (.int .u64 8)) J = J (.int .u64 (IntKind.wrap .u64 (a * 256))) := pA_shln 8 8 256 rfl (by decide) (by decide)
theorem pN_shr_3_u64_4 (xo yo : Operand) (a : Int) : pN Tryz.prog (oBin .shr 3 xo yo (.int .i64 a) (.int .u64 4)) w K = K (.int .i64 (a / 16)) w := pN_shrn 4 4 16 rfl (by decide) (by decide)
theorem pA_shr_3_u64_4 (xo yo : Operand) (a : Int) : pA Tryz.prog (oBin .shr 3 xo yo (.int .i64 a) (.int .u64 4)) J = J (.int .i64 (a / 16)) := pA_shrn 4 4 16 rfl (by decide) (by decide)
theorem pN_shr_3_u64_5 (xo yo : Operand) (a : Int) : pN Tryz.prog (oBin .shr 3 xo yo (.int .i64 a) (.int .u64 5)) w K = K (.int .i64 (a / 32)) w := pN_shrn 5 5 32 rfl (by decide) (by decide)
theorem pA_shr_3_u64_5 (xo yo : Operand) (a : Int) : pA Tryz.prog (oBin .shr 3 xo yo (.int .i64 a) (.int .u64 5)) J = J (.int .i64 (a / 32)) := pA_shrn 5 5 32 rfl (by decide) (by decide)
theorem pN_shr_148_u64_11 (xo yo : Operand) (a : Int) : pN Tryz.prog (oBin .shr 148 xo yo (.int .u32 a) (.int .u64 11)) w K = K (.int .u32 (a / 2048)) w := pN_shrn 11 11 2048 rfl (by decide) (by decide)
theorem pA_shr_148_u64_11 (xo yo : Operand) (a : Int) : pA Tryz.prog (oBin .shr 148 xo yo (.int .u32 a) (.int .u64 11)) J = J (.int .u32 (a / 2048)) := pA_shrn 11 11 2048 rfl (by decide) (by decide)
theorem pN_shr_148_u64_16 (xo yo : Operand) (a : Int) : pN Tryz.prog (oBin .shr 148 xo yo (.int .u32 a) (.int .u64 16)) w K = K (.int .u32 (a / 65536)) w := pN_shrn 16 16 65536 rfl (by decide) (by decide)
theorem pA_shr_148_u64_16 (xo yo : Operand) (a : Int) : pA Tryz.prog (oBin .shr 148 xo yo (.int .u32 a) (.int .u64 16)) J = J (.int .u32 (a / 65536)) := pA_shrn 16 16 65536 rfl (by decide) (by decide)
theorem pN_shr_148_u64_27 (xo yo : Operand) (a : Int) : pN Tryz.prog (oBin .shr 148 xo yo (.int .u32 a) (.int .u64 27)) w K = K (.int .u32 (a / 134217728)) w := pN_shrn 27 27 134217728 rfl (by decide) (by decide)
theorem pA_shr_148_u64_27 (xo yo : Operand) (a : Int) : pA Tryz.prog (oBin .shr 148 xo yo (.int .u32 a) (.int .u64 27)) J = J (.int .u32 (a / 134217728)) := pA_shrn 27 27 134217728 rfl (by decide) (by decide)
theorem pN_shr_148_u64_8 (xo yo : Operand) (a : Int) : pN Tryz.prog (oBin .shr 148 xo yo (.int .u32 a) (.int .u64 8)) w K = K (.int .u32 (a / 256)) w := pN_shrn 8 8 256 rfl (by decide) (by decide)
theorem pA_shr_148_u64_8 (xo yo : Operand) (a : Int) : pA Tryz.prog (oBin .shr 148 xo yo (.int .u32 a) (.int .u64 8)) J = J (.int .u32 (a / 256)) := pA_shrn 8 8 256 rfl (by decide) (by decide)
theorem pN_shr_188_u64_16 (xo yo : Operand) (a : Int) : pN Tryz.prog (oBin .shr 188 xo yo (.int .u64 a) (.int .u64 16)) w K = K (.int .u64 (a / 65536)) w := pN_shrn 16 16 65536 rfl (by decide) (by decide)
theorem pA_shr_188_u64_16 (xo yo : Operand) (a : Int) : pA Tryz.prog (oBin .shr 188 xo yo (.int .u64 a) (.int .u64 16)) J = J (.int .u64 (a / 65536)) := pA_shrn 16 16 65536 rfl (by decide) (by decide)
theorem pN_shr_188_u64_24 (xo yo : Operand) (a : Int) : pN Tryz.prog (oBin .shr 188 xo yo (.int .u64 a) (.int .u64 24)) w K = K (.int .u64 (a / 16777216)) w := pN_shrn 24 24 16777216 rfl (by decide) (by decide)
theorem pA_shr_188_u64_24 (xo yo : Operand) (a : Int) : pA Tryz.prog (oBin .shr 188 xo yo (.int .u64 a) (.int .u64 24)) J = J (.int .u64 (a / 16777216)) := pA_shrn 24 24 16777216 rfl (by decide) (by decide)
theorem pN_shr_188_u64_32 (xo yo : Operand) (a : Int) : pN Tryz.prog (oBin .shr 188 xo yo (.int .u64 a) (.int .u64 32)) w K = K (.int .u64 (a / 4294967296)) w := pN_shrn 32 32 4294967296 rfl (by decide) (by decide)
theorem pA_shr_188_u64_32 (xo yo : Operand) (a : Int) : pA Tryz.prog (oBin .shr 188 xo yo (.int .u64 a) (.int .u64 32)) J = J (.int .u64 (a / 4294967296)) := pA_shrn 32 32 4294967296 rfl (by decide) (by decide)
theorem pN_shr_188_u64_58 (xo yo : Operand) (a : Int) : pN Tryz.prog (oBin .shr 188 xo yo (.int .u64 a) (.int .u64 58)) w K = K (.int .u64 (a / 288230376151711744)) w := pN_shrn 58 58 288230376151711744 rfl (by decide) (by decide)
theorem pA_shr_188_u64_58 (xo yo : Operand) (a : Int) : pA Tryz.prog (oBin .shr 188 xo yo (.int .u64 a) (.int .u64 58)) J = J (.int .u64 (a / 288230376151711744)) := pA_shrn 58 58 288230376151711744 rfl (by decide) (by decide)
theorem pN_shr_188_u64_8 (xo yo : Operand) (a : Int) : pN Tryz.prog (oBin .shr 188 xo yo (.int .u64 a) (.int .u64 8)) w K = K (.int .u64 (a / 256)) w := pN_shrn 8 8 256 rfl (by decide) (by decide)
theorem pA_shr_188_u64_8 (xo yo : Operand) (a : Int) : pA Tryz.prog (oBin .shr 188 xo yo (.int .u64 a) (.int .u64 8)) J = J (.int .u64 (a / 256)) := pA_shrn 8 8 256 rfl (by decide) (by decide)
theorem pN_and_3_1 (xo yo : Operand) (a : Int) : pN Tryz.prog (oBin .and 3 xo yo (.int .i64 a) (.int .i64 1)) w K = K (.int .i64 (a % 2)) w := pN_andn 1 1 2 rfl rfl (by decide) (wrap_i64 (by omega))
theorem pA_and_3_1 (xo yo : Operand) (a : Int) : pA Tryz.prog (oBin .and 3 xo yo (.int .i64 a) (.int .i64 1)) J = J (.int .i64 (a % 2)) := pA_andn 1 1 2 rfl rfl (by decide) (wrap_i64 (by omega))
theorem pN_and_3_15 (xo yo : Operand) (a : Int) : pN Tryz.prog (oBin .and 3 xo yo (.int .i64 a) (.int .i64 15)) w K = K (.int .i64 (a % 16)) w := pN_andn 4 15 16 rfl rfl (by decide) (wrap_i64 (by omega))
theorem pA_and_3_15 (xo yo : Operand) (a : Int) : pA Tryz.prog (oBin .and 3 xo yo (.int .i64 a) (.int .i64 15)) J = J (.int .i64 (a % 16)) := pA_andn 4 15 16 rfl rfl (by decide) (wrap_i64 (by omega))
theorem pN_and_148_1 (xo yo : Operand) (a : Int) : pN Tryz.prog (oBin .and 148 xo yo (.int .u32 a) (.int .u32 1)) w K = K (.int .u32 (a % 2)) w := pN_andn 1 1 2 rfl rfl (by decide) (w_u32 (by omega))
theorem pA_and_148_1 (xo yo : Operand) (a : Int) : pA Tryz.prog (oBin .and 148 xo yo (.int .u32 a) (.int .u32 1)) J = J (.int .u32 (a % 2)) := pA_andn 1 1 2 rfl rfl (by decide) (w_u32 (by omega))
theorem pN_and_169_1 (xo yo : Operand) (a : Int) : pN Tryz.prog (oBin .and 169 xo yo (.int .u64 a) (.int .u64 1)) w K = K (.int .u64 (a % 2)) w := pN_andn 1 1 2 rfl rfl (by decide) (w_u64 (by omega))
theorem pA_and_169_1 (xo yo : Operand) (a : Int) : pA Tryz.prog (oBin .and 169 xo yo (.int .u64 a) (.int .u64 1)) J = J (.int .u64 (a % 2)) := pA_andn 1 1 2 rfl rfl (by decide) (w_u64 (by omega))
theorem pN_and_188_16777215 (xo yo : Operand) (a : Int) : pN Tryz.prog (oBin .and 188 xo yo (.int .u64 a) (.int .u64 16777215)) w K = K (.int .u64 (a % 16777216)) w := pN_andn 24 16777215 16777216 rfl rfl (by decide) (w_u64 (by omega))
theorem pA_and_188_16777215 (xo yo : Operand) (a : Int) : pA Tryz.prog (oBin .and 188 xo yo (.int .u64 a) (.int .u64 16777215)) J = J (.int .u64 (a % 16777216)) := pA_andn 24 16777215 16777216 rfl rfl (by decide) (w_u64 (by omega))
theorem run_bld_23_0_2 (x0 : Int) (x2 : Int) (w : World) : (oBuild 23 [(0, .int .i64 x0), (2, .int .i64 x2)]).run Tryz.prog w = .ok (.value (.agg #[(.int .i64 x0), (.int .i64 0), (.int .i64 x2)])) w := by kernel_rfl
theorem pN_bld_23_0_2 (x0 : Int) (x2 : Int) : pN Tryz.prog (oBuild 23 [(0, .int .i64 x0), (2, .int .i64 x2)]) w K = K (.agg #[(.int .i64 x0), (.int .i64 0), (.int .i64 x2)]) w := by rw [pN_def, run_bld_23_0_2, rN_value]
theorem run_bld_48_0 (x0 : Int) (w : World) : (oBuild 48 [(0, .int .i64 x0)]).run Tryz.prog w = .ok (.value (.agg #[(.int .i64 x0), (bv 0), (.int .i64 0), (.int .i64 0)])) w := by kernel_rfl
theorem pN_bld_48_0 (x0 : Int) : pN Tryz.prog (oBuild 48 [(0, .int .i64 x0)]) w K = K (.agg #[(.int .i64 x0), (bv 0), (.int .i64 0), (.int .i64 0)]) w := by rw [pN_def, run_bld_48_0, rN_value]
theorem run_bld_48_0_1 (x0 : Int) (x1 : UInt8) (w : World) : (oBuild 48 [(0, .int .i64 x0), (1, bv x1)]).run Tryz.prog w = .ok (.value (.agg #[(.int .i64 x0), (bv x1), (.int .i64 0), (.int .i64 0)])) w := by kernel_rfl
theorem pN_bld_48_0_1 (x0 : Int) (x1 : UInt8) : pN Tryz.prog (oBuild 48 [(0, .int .i64 x0), (1, bv x1)]) w K = K (.agg #[(.int .i64 x0), (bv x1), (.int .i64 0), (.int .i64 0)]) w := by rw [pN_def, run_bld_48_0_1, rN_value]
theorem run_bld_48_0_2_3 (x0 : Int) (x2 : Int) (x3 : Int) (w : World) : (oBuild 48 [(0, .int .i64 x0), (2, .int .i64 x2), (3, .int .i64 x3)]).run Tryz.prog w = .ok (.value (.agg #[(.int .i64 x0), (bv 0), (.int .i64 x2), (.int .i64 x3)])) w := by kernel_rfl
theorem pN_bld_48_0_2_3 (x0 : Int) (x2 : Int) (x3 : Int) : pN Tryz.prog (oBuild 48 [(0, .int .i64 x0), (2, .int .i64 x2), (3, .int .i64 x3)]) w K = K (.agg #[(.int .i64 x0), (bv 0), (.int .i64 x2), (.int .i64 x3)]) w := by rw [pN_def, run_bld_48_0_2_3, rN_value]
theorem run_bld_50_1 (x1 : Int) (w : World) : (oBuild 50 [(1, .int .i64 x1)]).run Tryz.prog w = .ok (.value (.agg #[(.int .i64 0), (.int .i64 x1), (.int .i64 0), (bv 0), (.int .i64 0), (.int .i64 0), (.slice none 0 0), (.int .i64 0), (.int .i64 0), (.int .i64 0)])) w := by kernel_rfl
theorem pN_bld_50_1 (x1 : Int) : pN Tryz.prog (oBuild 50 [(1, .int .i64 x1)]) w K = K (.agg #[(.int .i64 0), (.int .i64 x1), (.int .i64 0), (bv 0), (.int .i64 0), (.int .i64 0), (.slice none 0 0), (.int .i64 0), (.int .i64 0), (.int .i64 0)]) w := by rw [pN_def, run_bld_50_1, rN_value]
theorem run_bld_79_1 (x1_0 : Int) (x1_1 : Int) (x1_2 : Int) (w : World) : (oBuild 79 [(1, .agg #[.int .i64 x1_0, .int .i64 x1_1, .int .i64 x1_2])]).run Tryz.prog w = .ok (.value (.agg #[(.pointer none), (.int .i64 x1_0), (.int .i64 x1_1), (.int .i64 x1_2), (.int .i64 0), (.int .i64 0), (.int .i64 0), (.int .i64 0), (.int .i64 0), (.slice none 0 0), (.map none), (.bool false)])) w := by kernel_rfl
theorem pN_bld_79_1 (x1_0 : Int) (x1_1 : Int) (x1_2 : Int) : pN Tryz.prog (oBuild 79 [(1, .agg #[.int .i64 x1_0, .int .i64 x1_1, .int .i64 x1_2])]) w K = K (.agg #[(.pointer none), (.int .i64 x1_0), (.int .i64 x1_1), (.int .i64 x1_2), (.int .i64 0), (.int .i64 0), (.int .i64 0), (.int .i64 0), (.int .i64 0), (.slice none 0 0), (.map none), (.bool false)]) w := by rw [pN_def, run_bld_79_1, rN_value]
theorem run_bld_100_  (w : World) : (oBuild 100 []).run Tryz.prog w = .ok (.value (.agg #[(.int .i64 0), (.int .i64 0), (.int .i64 0), (.int .i64 0), (.int .i64 0)])) w := by kernel_rfl
theorem pN_bld_100_  : pN Tryz.prog (oBuild 100 []) w K = K (.agg #[(.int .i64 0), (.int .i64 0), (.int .i64 0), (.int .i64 0), (.int .i64 0)]) w := by rw [pN_def, run_bld_100_, rN_value]
theorem run_bld_100_0_1 (x0 : Int) (x1_0 : Int) (x1_1 : Int) (x1_2 : Int) (x1_3 : Int) (w : World) : (oBuild 100 [(0, .int .i64 x0), (1, .agg #[.int .i64 x1_0, .int .i64 x1_1, .int .i64 x1_2, .int .i64 x1_3])]).run Tryz.prog w = .ok (.value (.agg #[(.int .i64 x0), (.int .i64 x1_0), (.int .i64 x1_1), (.int .i64 x1_2), (.int .i64 x1_3)])) w := by kernel_rfl
theorem pN_bld_100_0_1 (x0 : Int) (x1_0 : Int) (x1_1 : Int) (x1_2 : Int) (x1_3 : Int) : pN Tryz.prog (oBuild 100 [(0, .int .i64 x0), (1, .agg #[.int .i64 x1_0, .int .i64 x1_1, .int .i64 x1_2, .int .i64 x1_3])]) w K = K (.agg #[(.int .i64 x0), (.int .i64 x1_0), (.int .i64 x1_1), (.int .i64 x1_2), (.int .i64 x1_3)]) w := by rw [pN_def, run_bld_100_0_1, rN_value]
theorem run_bld_100_1 (x1_0 : Int) (x1_1 : Int) (x1_2 : Int) (x1_3 : Int) (w : World) : (oBuild 100 [(1, .agg #[.int .i64 x1_0, .int .i64 x1_1, .int .i64 x1_2, .int .i64 x1_3])]).run Tryz.prog w = .ok (.value (.agg #[(.int .i64 0), (.int .i64 x1_0), (.int .i64 x1_1), (.int .i64 x1_2), (.int .i64 x1_3)])) w := by kernel_rfl
theorem pN_bld_100_1 (x1_0 : Int) (x1_1 : Int) (x1_2 : Int) (x1_3 : Int) : pN Tryz.prog (oBuild 100 [(1, .agg #[.int .i64 x1_0, .int .i64 x1_1, .int .i64 x1_2, .int .i64 x1_3])]) w K = K (.agg #[(.int .i64 0), (.int .i64 x1_0), (.int .i64 x1_1), (.int .i64 x1_2), (.int .i64 x1_3)]) w := by rw [pN_def, run_bld_100_1, rN_value]
theorem run_bld_128_0_1_2 (x0 : Option Addr) (x1 : Option Addr) (x2 : Option Addr) (w : World) : (oBuild 128 [(0, .pointer x0), (1, .pointer x1), (2, .pointer x2)]).run Tryz.prog w = .ok (.value (.agg #[(.pointer x0), (.pointer x1), (.pointer x2)])) w := by kernel_rfl
theorem pN_bld_128_0_1_2 (x0 : Option Addr) (x1 : Option Addr) (x2 : Option Addr) : pN Tryz.prog (oBuild 128 [(0, .pointer x0), (1, .pointer x1), (2, .pointer x2)]) w K = K (.agg #[(.pointer x0), (.pointer x1), (.pointer x2)]) w := by rw [pN_def, run_bld_128_0_1_2, rN_value]
theorem run_bld_136_0 (x0 : Option Addr) (w : World) : (oBuild 136 [(0, .pointer x0)]).run Tryz.prog w = .ok (.value (.agg #[(.pointer x0)])) w := by kernel_rfl
theorem pN_bld_136_0 (x0 : Option Addr) : pN Tryz.prog (oBuild 136 [(0, .pointer x0)]) w K = K (.agg #[(.pointer x0)]) w := by rw [pN_def, run_bld_136_0, rN_value]
theorem run_bld_139_0_1_2_3 (x0 : Option Addr) (x1 : Option Addr) (x2 : Option Addr) (x3 : Option Addr) (w : World) : (oBuild 139 [(0, .pointer x0), (1, .pointer x1), (2, .pointer x2), (3, .pointer x3)]).run Tryz.prog w = .ok (.value (.agg #[(.pointer x0), (.pointer x1), (.pointer x2), (.pointer x3)])) w := by kernel_rfl
theorem pN_bld_139_0_1_2_3 (x0 : Option Addr) (x1 : Option Addr) (x2 : Option Addr) (x3 : Option Addr) : pN Tryz.prog (oBuild 139 [(0, .pointer x0), (1, .pointer x1), (2, .pointer x2), (3, .pointer x3)]) w K = K (.agg #[(.pointer x0), (.pointer x1), (.pointer x2), (.pointer x3)]) w := by rw [pN_def, run_bld_139_0_1_2_3, rN_value]
theorem run_bld_141_0_1_2_3_4_5_6_7_8_9_10_11_12_13 (x0_0 : Int) (x0_1 : Int) (x0_2 : Int) (x1_0 : Int) (x1_1_0 : Int) (x1_1_1 : Int) (x1_1_2 : Int) (x1_1_3 : Int) (x2 : Option Addr) (x3 : Option Addr) (x4 : Option Addr) (x5 : Option Addr) (x6 : Option Addr) (x7 : Option Addr) (x8 : Option Addr) (x9_0 : Option Addr) (x9_1 : Option Addr) (x9_2 : Option Addr) (x9_3 : Option Addr) (x10_0 : Option Addr) (x10_1 : Option Addr) (x10_2 : Option Addr) (x10_3 : Option Addr) (x11 : Option Addr) (x12 : Option Addr) (x13 : Option Addr) (w : World) : (oBuild 141 [(0, .agg #[.int .i64 x0_0, .int .i64 x0_1, .int .i64 x0_2]), (1, .agg #[.int .i64 x1_0, .int .i64 x1_1_0, .int .i64 x1_1_1, .int .i64 x1_1_2, .int .i64 x1_1_3]), (2, .pointer x2), (3, .pointer x3), (4, .pointer x4), (5, .pointer x5), (6, .pointer x6), (7, .pointer x7), (8, .pointer x8), (9, .agg #[.pointer x9_0, .pointer x9_1, .pointer x9_2, .pointer x9_3]), (10, .agg #[.pointer x10_0, .pointer x10_1, .pointer x10_2, .pointer x10_3]), (11, .pointer x11), (12, .pointer x12), (13, .pointer x13)]).run Tryz.prog w = .ok (.value (.agg #[(.int .i64 x0_0), (.int .i64 x0_1), (.int .i64 x0_2), (.int .i64 x1_0), (.int .i64 x1_1_0), (.int .i64 x1_1_1), (.int .i64 x1_1_2), (.int .i64 x1_1_3), (.pointer x2), (.pointer x3), (.pointer x4), (.pointer x5), (.pointer x6), (.pointer x7), (.pointer x8), (.pointer x9_0), (.pointer x9_1), (.pointer x9_2), (.pointer x9_3), (.pointer x10_0), (.pointer x10_1), (.pointer x10_2), (.pointer x10_3), (.pointer x11), (.pointer x12), (.pointer x13)])) w := by kernel_rfl
theorem pN_bld_141_0_1_2_3_4_5_6_7_8_9_10_11_12_13 (x0_0 : Int) (x0_1 : Int) (x0_2 : Int) (x1_0 : Int) (x1_1_0 : Int) (x1_1_1 : Int) (x1_1_2 : Int) (x1_1_3 : Int) (x2 : Option Addr) (x3 : Option Addr) (x4 : Option Addr) (x5 : Option Addr) (x6 : Option Addr) (x7 : Option Addr) (x8 : Option Addr) (x9_0 : Option Addr) (x9_1 : Option Addr) (x9_2 : Option Addr) (x9_3 : Option Addr) (x10_0 : Option Addr) (x10_1 : Option Addr) (x10_2 : Option Addr) (x10_3 : Option Addr) (x11 : Option Addr) (x12 : Option Addr) (x13 : Option Addr) : pN Tryz.prog (oBuild 141 [(0, .agg #[.int .i64 x0_0, .int .i64 x0_1, .int .i64 x0_2]), (1, .agg #[.int .i64 x1_0, .int .i64 x1_1_0, .int .i64 x1_1_1, .int .i64 x1_1_2, .int .i64 x1_1_3]), (2, .pointer x2), (3, .pointer x3), (4, .pointer x4), (5, .pointer x5), (6, .pointer x6), (7, .pointer x7), (8, .pointer x8), (9, .agg #[.pointer x9_0, .pointer x9_1, .pointer x9_2, .pointer x9_3]), (10, .agg #[.pointer x10_0, .pointer x10_1, .pointer x10_2, .pointer x10_3]), (11, .pointer x11), (12, .pointer x12), (13, .pointer x13)]) w K = K (.agg #[(.int .i64 x0_0), (.int .i64 x0_1), (.int .i64 x0_2), (.int .i64 x1_0), (.int .i64 x1_1_0), (.int .i64 x1_1_1), (.int .i64 x1_1_2), (.int .i64 x1_1_3), (.pointer x2), (.pointer x3), (.pointer x4), (.pointer x5), (.pointer x6), (.pointer x7), (.pointer x8), (.pointer x9_0), (.pointer x9_1), (.pointer x9_2), (.pointer x9_3), (.pointer x10_0), (.pointer x10_1), (.pointer x10_2), (.pointer x10_3), (.pointer x11), (.pointer x12), (.pointer x13)]) w := by rw [pN_def, run_bld_141_0_1_2_3_4_5_6_7_8_9_10_11_12_13, rN_value]
theorem run_bld_175_0 (x0 : Int) (w : World) : (oBuild 175 [(0, .int .i64 x0)]).run Tryz.prog w = .ok (.value (.agg #[(.int .i64 x0), (.slice none 0 0), (.int .i64 0), (.int .i64 0)])) w := by kernel_rfl
theorem pN_bld_175_0 (x0 : Int) : pN Tryz.prog (oBuild 175 [(0, .int .i64 x0)]) w K = K (.agg #[(.int .i64 x0), (.slice none 0 0), (.int .i64 0), (.int .i64 0)]) w := by rw [pN_def, run_bld_175_0, rN_value]
theorem run_bld_190_1 (x1 : Int) (w : World) : (oBuild 190 [(1, .int .u32 x1)]).run Tryz.prog w = .ok (.value (.agg #[(.int .u64 0), (.int .u32 x1), (bv 0), (.int .i64 0), (.slice none 0 0)])) w := by kernel_rfl
theorem pN_bld_190_1 (x1 : Int) : pN Tryz.prog (oBuild 190 [(1, .int .u32 x1)]) w K = K (.agg #[(.int .u64 0), (.int .u32 x1), (bv 0), (.int .i64 0), (.slice none 0 0)]) w := by rw [pN_def, run_bld_190_1, rN_value]
theorem run_bld_219_0_1 (x0 : Int) (x1 : Option Addr) (x1n x1c : Nat) (w : World) : (oBuild 219 [(0, .int .i64 x0), (1, .slice x1 x1n x1c)]).run Tryz.prog w = .ok (.value (.agg #[(.int .i64 x0), (.slice x1 x1n x1c)])) w := by kernel_rfl
theorem pN_bld_219_0_1 (x0 : Int) (x1 : Option Addr) (x1n x1c : Nat) : pN Tryz.prog (oBuild 219 [(0, .int .i64 x0), (1, .slice x1 x1n x1c)]) w K = K (.agg #[(.int .i64 x0), (.slice x1 x1n x1c)]) w := by rw [pN_def, run_bld_219_0_1, rN_value]
theorem run_bld_224_0_1 (x0 : Int) (x1 : Int) (w : World) : (oBuild 224 [(0, .int .i64 x0), (1, .int .u32 x1)]).run Tryz.prog w = .ok (.value (.agg #[(.int .i64 x0), (.int .u32 x1), (.int .u32 0)])) w := by kernel_rfl
theorem pN_bld_224_0_1 (x0 : Int) (x1 : Int) : pN Tryz.prog (oBuild 224 [(0, .int .i64 x0), (1, .int .u32 x1)]) w K = K (.agg #[(.int .i64 x0), (.int .u32 x1), (.int .u32 0)]) w := by rw [pN_def, run_bld_224_0_1, rN_value]
theorem run_bld_226_0_1 (x0 : Option Addr) (x0n x0c : Nat) (x1_0 : Int) (x1_1 : Int) (x1_2 : Int) (w : World) : (oBuild 226 [(0, .slice x0 x0n x0c), (1, .agg #[.int .i64 x1_0, .int .u32 x1_1, .int .u32 x1_2])]).run Tryz.prog w = .ok (.value (.agg #[(.slice x0 x0n x0c), (.int .i64 x1_0), (.int .u32 x1_1), (.int .u32 x1_2)])) w := by kernel_rfl
theorem pN_bld_226_0_1 (x0 : Option Addr) (x0n x0c : Nat) (x1_0 : Int) (x1_1 : Int) (x1_2 : Int) : pN Tryz.prog (oBuild 226 [(0, .slice x0 x0n x0c), (1, .agg #[.int .i64 x1_0, .int .u32 x1_1, .int .u32 x1_2])]) w K = K (.agg #[(.slice x0 x0n x0c), (.int .i64 x1_0), (.int .u32 x1_1), (.int .u32 x1_2)]) w := by rw [pN_def, run_bld_226_0_1, rN_value]
theorem run_bld_254_0 (x0 : Option Addr) (x0n x0c : Nat) (w : World) : (oBuild 254 [(0, .slice x0 x0n x0c)]).run Tryz.prog w = .ok (.value (.agg #[(.slice x0 x0n x0c)])) w := by kernel_rfl
theorem pN_bld_254_0 (x0 : Option Addr) (x0n x0c : Nat) : pN Tryz.prog (oBuild 254 [(0, .slice x0 x0n x0c)]) w K = K (.agg #[(.slice x0 x0n x0c)]) w := by rw [pN_def, run_bld_254_0, rN_value]
theorem run_bld_67_0_1_2_3 (x0 : Int) (x1 : Int) (x2 : Int) (x3 : Int) (w : World) : (oBuild 67 [(0, .int .i64 x0), (1, .int .i64 x1), (2, .int .i64 x2), (3, .int .i64 x3)]).run Tryz.prog w = .ok (.value (.agg #[(.int .i64 x0), (.int .i64 x1), (.int .i64 x2), (.int .i64 x3)])) w := by kernel_rfl
theorem pN_bld_67_0_1_2_3 (x0 : Int) (x1 : Int) (x2 : Int) (x3 : Int) : pN Tryz.prog (oBuild 67 [(0, .int .i64 x0), (1, .int .i64 x1), (2, .int .i64 x2), (3, .int .i64 x3)]) w K = K (.agg #[(.int .i64 x0), (.int .i64 x1), (.int .i64 x2), (.int .i64 x3)]) w := by rw [pN_def, run_bld_67_0_1_2_3, rN_value]
end
attribute [go_sem] pN_shl_3_u64_4 pA_shl_3_u64_4 pN_shl_148_u64_1 pA_shl_148_u64_1 pN_shl_148_u64_8 pA_shl_148_u64_8 pN_shl_188_u64_8 pA_shl_188_u64_8 pN_shr_3_u64_4 pA_shr_3_u64_4 pN_shr_3_u64_5 pA_shr_3_u64_5 pN_shr_148_u64_11 pA_shr_148_u64_11 pN_shr_148_u64_16 pA_shr_148_u64_16 pN_shr_148_u64_27 pA_shr_148_u64_27 pN_shr_148_u64_8 pA_shr_148_u64_8 pN_shr_188_u64_16 pA_shr_188_u64_16 pN_shr_188_u64_24 pA_shr_188_u64_24 pN_shr_188_u64_32 pA_shr_188_u64_32 pN_shr_188_u64_58 pA_shr_188_u64_58 pN_shr_188_u64_8 pA_shr_188_u64_8 pN_and_3_1 pA_and_3_1 pN_and_3_15 pA_and_3_15 pN_and_148_1 pA_and_148_1 pN_and_169_1 pA_and_169_1 pN_and_188_16777215 pA_and_188_16777215 pN_bld_23_0_2 pN_bld_48_0 pN_bld_48_0_1 pN_bld_48_0_2_3 pN_bld_50_1 pN_bld_79_1 pN_bld_100_ pN_bld_100_0_1 pN_bld_100_1 pN_bld_128_0_1_2 pN_bld_136_0 pN_bld_139_0_1_2_3 pN_bld_141_0_1_2_3_4_5_6_7_8_9_10_11_12_13 pN_bld_175_0 pN_bld_190_1 pN_bld_219_0_1 pN_bld_224_0_1 pN_bld_226_0_1 pN_bld_254_0 pN_bld_67_0_1_2_3
theorem cells_3 : Tryz.prog.cellsOf 3 = 1 := by kernel_rfl
theorem cells_5 : Tryz.prog.cellsOf 5 = 1 := by kernel_rfl
theorem bytes_5 : Tryz.prog.bytesOf 5 = 1 := by kernel_rfl
theorem cells_23 : Tryz.prog.cellsOf 23 = 3 := by kernel_rfl
theorem cells_30 : Tryz.prog.cellsOf 30 = 1 := by kernel_rfl
theorem cells_35 : Tryz.prog.cellsOf 35 = 4 := by kernel_rfl
theorem cells_48 : Tryz.prog.cellsOf 48 = 4 := by kernel_rfl
theorem cells_50 : Tryz.prog.cellsOf 50 = 10 := by kernel_rfl
theorem bytes_50 : Tryz.prog.bytesOf 50 = 96 := by kernel_rfl
theorem piece (cs : List Value) (o s : Nat) : cs.drop o = (cs.drop o).take s ++ cs.drop (o + s) := by rw [← List.drop_drop, List.take_append_drop]
def T_api_Props.ok (W : World) (b : T_api_Props) (k : Nat) : Prop := (-9223372036854775808 ≤ b.LC ∧ b.LC < 9223372036854775808) ∧ (-9223372036854775808 ≤ b.LP ∧ b.LP < 9223372036854775808) ∧ (-9223372036854775808 ≤ b.PB ∧ b.PB < 9223372036854775808)
theorem opn_api_Props (W : World) : Opn Tryz.prog W 23 T_api_Props.enc (T_api_Props.ok W) := by
  refine ⟨fun {H} en fuel cs x hx hw => ?_⟩
  obtain ⟨xs, n, _, rfl, hl, hlen, hf⟩ := DataW.trod_struct Tryz.underlying23 hx
  have hlen : xs.length = 3 := hlen
  rw [cells_23] at hl
  obtain ⟨b0, e0, k0, m0, o0⟩ := opn_field Tryz.underlying23 hw hf 0 3 0 1 ⟨_, rfl, rfl, rfl⟩ cells_3 (by omega) (opn_i64 Tryz.underlying3)
  have q0 := piece cs 0 1
  rw [e0] at q0
  obtain ⟨b1, e1, k1, m1, o1⟩ := opn_field Tryz.underlying23 hw hf 1 3 1 1 ⟨_, rfl, rfl, rfl⟩ cells_3 (by omega) (opn_i64 Tryz.underlying3)
  have q1 := piece cs 1 1
  rw [e1] at q1
  obtain ⟨b2, e2, k2, m2, o2⟩ := opn_field Tryz.underlying23 hw hf 2 3 2 1 ⟨_, rfl, rfl, rfl⟩ cells_3 (by omega) (opn_i64 Tryz.underlying3)
  have q2 := piece cs 2 1
  rw [e2] at q2
  have hz : cs.drop 3 = [] := List.drop_of_length_le (by omega)
  refine ⟨⟨b0, b1, b2⟩, ?_, ⟨o0, o1, o2⟩⟩
  have q : cs.drop 0 = _ := q0
  simp only [Nat.zero_add, Nat.reduceAdd, hz, List.drop_zero] at q q1 q2
  rw [q1] at q
  rw [q2] at q
  exact q
def T_pithlaw14_Setup.ok (W : World) (b : T_pithlaw14_Setup) (k : Nat) : Prop := (∃ k', k' ≤ k ∧ b.Props.ok W k') ∧ (-9223372036854775808 ≤ b.Dict ∧ b.Dict < 9223372036854775808)
theorem opn_pithlaw14_Setup (W : World) : Opn Tryz.prog W 35 T_pithlaw14_Setup.enc (T_pithlaw14_Setup.ok W) := by
  refine ⟨fun {H} en fuel cs x hx hw => ?_⟩
  obtain ⟨xs, n, _, rfl, hl, hlen, hf⟩ := DataW.trod_struct Tryz.underlying35 hx
  have hlen : xs.length = 2 := hlen
  rw [cells_35] at hl
  obtain ⟨b0, e0, k0, m0, o0⟩ := opn_field Tryz.underlying35 hw hf 0 23 0 3 ⟨_, rfl, rfl, rfl⟩ cells_23 (by omega) (opn_api_Props W)
  have q0 := piece cs 0 3
  rw [e0] at q0
  obtain ⟨b1, e1, k1, m1, o1⟩ := opn_field Tryz.underlying35 hw hf 1 3 3 1 ⟨_, rfl, rfl, rfl⟩ cells_3 (by omega) (opn_i64 Tryz.underlying3)
  have q1 := piece cs 3 1
  rw [e1] at q1
  have hz : cs.drop 4 = [] := List.drop_of_length_le (by omega)
  refine ⟨⟨b0, b1⟩, ?_, ⟨⟨_, m0, o0⟩, o1⟩⟩
  have q : cs.drop 0 = _ := q0
  simp only [Nat.zero_add, Nat.reduceAdd, hz, List.drop_zero] at q q1
  rw [q1] at q
  exact q
def T_api_Symbol.ok (W : World) (b : T_api_Symbol) (k : Nat) : Prop := (-9223372036854775808 ≤ b.Kind ∧ b.Kind < 9223372036854775808) ∧ True ∧ (-9223372036854775808 ≤ b.Len ∧ b.Len < 9223372036854775808) ∧ (-9223372036854775808 ≤ b.Dist ∧ b.Dist < 9223372036854775808)
theorem opn_api_Symbol (W : World) : Opn Tryz.prog W 48 T_api_Symbol.enc (T_api_Symbol.ok W) := by
  refine ⟨fun {H} en fuel cs x hx hw => ?_⟩
  obtain ⟨xs, n, _, rfl, hl, hlen, hf⟩ := DataW.trod_struct Tryz.underlying48 hx
  have hlen : xs.length = 4 := hlen
  rw [cells_48] at hl
  obtain ⟨b0, e0, k0, m0, o0⟩ := opn_field Tryz.underlying48 hw hf 0 3 0 1 ⟨_, rfl, rfl, rfl⟩ cells_3 (by omega) (opn_i64 Tryz.underlying3)
  have q0 := piece cs 0 1
  rw [e0] at q0
  obtain ⟨b1, e1, k1, m1, o1⟩ := opn_field Tryz.underlying48 hw hf 1 5 1 1 ⟨_, rfl, rfl, rfl⟩ cells_5 (by omega) (opn_u8 Tryz.underlying5)
  have q1 := piece cs 1 1
  rw [e1] at q1
  obtain ⟨b2, e2, k2, m2, o2⟩ := opn_field Tryz.underlying48 hw hf 2 3 2 1 ⟨_, rfl, rfl, rfl⟩ cells_3 (by omega) (opn_i64 Tryz.underlying3)
  have q2 := piece cs 2 1
  rw [e2] at q2
  obtain ⟨b3, e3, k3, m3, o3⟩ := opn_field Tryz.underlying48 hw hf 3 3 3 1 ⟨_, rfl, rfl, rfl⟩ cells_3 (by omega) (opn_i64 Tryz.underlying3)
  have q3 := piece cs 3 1
  rw [e3] at q3
  have hz : cs.drop 4 = [] := List.drop_of_length_le (by omega)
  refine ⟨⟨b0, b1, b2, b3⟩, ?_, ⟨o0, o1, o2, o3⟩⟩
  have q : cs.drop 0 = _ := q0
  simp only [Nat.zero_add, Nat.reduceAdd, hz, List.drop_zero] at q q1 q2 q3
  rw [q1] at q
  rw [q2] at q
  rw [q3] at q
  exact q
def T_pithlaw14_Step.ok (W : World) (b : T_pithlaw14_Step) (k : Nat) : Prop := (-9223372036854775808 ≤ b.Which ∧ b.Which < 9223372036854775808) ∧ (-9223372036854775808 ≤ b.Kind ∧ b.Kind < 9223372036854775808) ∧ (∃ k', k' ≤ k ∧ b.Sym.ok W k') ∧ (∃ k', k' ≤ k ∧ (RdP cd_uint8 (old W) b.Raw.1 b.Raw.2 ∧ b.Raw.2.length * 1 ≤ reachBytes ∧ b.Raw.2.length + 1 ≤ k' ∧ ∀ c0 ∈ b.Raw.2, ∃ k0, k0 ≤ k' ∧ True)) ∧ (∃ k', k' ≤ k ∧ b.Props.ok W k')
theorem opn_pithlaw14_Step (W : World) : Opn Tryz.prog W 50 T_pithlaw14_Step.enc (T_pithlaw14_Step.ok W) := by
  refine ⟨fun {H} en fuel cs x hx hw => ?_⟩
  obtain ⟨xs, n, _, rfl, hl, hlen, hf⟩ := DataW.trod_struct Tryz.underlying50 hx
  have hlen : xs.length = 5 := hlen
  rw [cells_50] at hl
  obtain ⟨b0, e0, k0, m0, o0⟩ := opn_field Tryz.underlying50 hw hf 0 3 0 1 ⟨_, rfl, rfl, rfl⟩ cells_3 (by omega) (opn_i64 Tryz.underlying3)
  have q0 := piece cs 0 1
  rw [e0] at q0
  obtain ⟨b1, e1, k1, m1, o1⟩ := opn_field Tryz.underlying50 hw hf 1 3 1 1 ⟨_, rfl, rfl, rfl⟩ cells_3 (by omega) (opn_i64 Tryz.underlying3)
  have q1 := piece cs 1 1
  rw [e1] at q1
  obtain ⟨b2, e2, k2, m2, o2⟩ := opn_field Tryz.underlying50 hw hf 2 48 2 4 ⟨_, rfl, rfl, rfl⟩ cells_48 (by omega) (opn_api_Symbol W)
  have q2 := piece cs 2 4
  rw [e2] at q2
  obtain ⟨b3, e3, k3, m3, o3⟩ := opn_field Tryz.underlying50 hw hf 3 30 6 1 ⟨_, rfl, rfl, rfl⟩ cells_30 (by omega) (opn_slice (C := cd_uint8) Tryz.underlying30 cells_5 bytes_5 (opn_u8 Tryz.underlying5))
  have q3 := piece cs 6 1
  rw [e3] at q3
  obtain ⟨b4, e4, k4, m4, o4⟩ := opn_field Tryz.underlying50 hw hf 4 23 7 3 ⟨_, rfl, rfl, rfl⟩ cells_23 (by omega) (opn_api_Props W)
  have q4 := piece cs 7 3
  rw [e4] at q4
  have hz : cs.drop 10 = [] := List.drop_of_length_le (by omega)
  refine ⟨⟨b0, b1, b2, b3, b4⟩, ?_, ⟨o0, o1, ⟨_, m2, o2⟩, ⟨_, m3, o3⟩, ⟨_, m4, o4⟩⟩⟩
  have q : cs.drop 0 = _ := q0
  simp only [Nat.zero_add, Nat.reduceAdd, hz, List.drop_zero] at q q1 q2 q3 q4
  rw [q1] at q
  rw [q2] at q
  rw [q3] at q
  rw [q4] at q
  exact q
end Go.Proofs.YtbgnnjfpiblkmaaGreatDoor

namespace Go.Proofs.YtbgnnjfpiblkmaaGreatDoor
open Go
attribute [local irreducible] oMv oV oU oCall oCallV oBi oBin oUn oLoad oStore oNil oFld oField oIdx oIndex oPick oAlloc oBox oBuild oBs oConv oMk oSl oExt oFn oIface oMap oLook oMapUp oRange oNext oEntry oInv oAssert oPanic oRes pN pA pL pDr pIf gA pGd

def PSet (b : Nat) (l : List Int) : HA := fun h => ∃ s : Sl, Sats [cel b ⟨254, [.slice s.a l.length s.c]⟩, rows cd_int s l] h

namespace B
def taken (p : Int) : Int := max 0 (min p 2047)
def next (p bit : Int) : Int := if bit = 0 then taken p + (2048 - taken p) / 32 else taken p - taken p / 32
def bound (rng p : Int) : Int := rng / 2048 * taken p
theorem taken_lo (p : Int) : 0 ≤ taken p := by unfold taken; omega
theorem taken_hi (p : Int) : taken p ≤ 2047 := by unfold taken; omega
theorem taken_self {p : Int} (h : 0 ≤ p) (h2 : p ≤ 2047) : taken p = p := by unfold taken; omega
theorem next_lo {p : Int} (bit : Int) (h1 : 31 ≤ p) (h2 : p ≤ 2017) : 31 ≤ next p bit := by
  unfold next
  rw [taken_self (by omega) (by omega)]
  split <;> omega
theorem next_hi {p : Int} (bit : Int) (h1 : 31 ≤ p) (h2 : p ≤ 2017) : next p bit ≤ 2017 := by
  unfold next
  rw [taken_self (by omega) (by omega)]
  split <;> omega
theorem bound_pos {rng p : Int} (h0 : 16777216 ≤ rng) (h1 : 31 ≤ p) : 0 < bound rng p := by
  unfold bound taken
  have : 1 * 1 ≤ rng / 2048 * max 0 (min p 2047) := Int.mul_le_mul (by omega) (by omega) (by omega) (by omega)
  omega
theorem bound_lo {rng p : Int} (h0 : 0 ≤ rng) : 0 ≤ bound rng p := Int.mul_nonneg (by omega) (taken_lo p)
theorem bound_lt {rng p : Int} (h0 : 16777216 ≤ rng) : bound rng p < rng := by
  unfold bound
  have h1 := taken_hi p
  have h2 := taken_lo p
  have : rng / 2048 * taken p ≤ rng / 2048 * 2047 := Int.mul_le_mul_of_nonneg_left h1 (by omega)
  omega
theorem bound_le {rng p : Int} (h0 : 0 ≤ rng) : bound rng p ≤ rng := by
  unfold bound
  have h1 := taken_hi p
  have h2 := taken_lo p
  have : rng / 2048 * taken p ≤ rng / 2048 * 2047 := Int.mul_le_mul_of_nonneg_left h1 (by omega)
  omega
def halve : Nat → Int → Int → Int × Int
  | 0, w, c => (w, c)
  | f + 1, w, c => if 65536 ≤ w then halve f (w / 2) (c + 1) else (w, c)
def square (x : Int × Int) : Int × Int := halve 20 (x.1 * x.1) (x.2 * 2)
def costing (i : Int) : Int := 161 - (square (square (square (square (16 * i + 8, 0))))).2
def sq : Nat → Int × Int → Int × Int
  | 0, x => x
  | n + 1, x => sq n (square x)
def cost (p bit : Int) : Int := if bit = 0 then costing (taken p / 16) else costing ((2047 - taken p) / 16)
theorem halve_stop (f : Nat) {w : Int} (c : Int) (h : w < 65536) : halve f w c = (w, c) := by
  cases f with
  | zero => rfl
  | succ f => rw [halve, if_neg (by omega)]
def Fine (l : List Int) : Prop := ∀ p ∈ l, 31 ≤ p ∧ p ≤ 2017
theorem Fine.get {l : List Int} (h : Fine l) {i : Nat} {p : Int} (hp : l[i]? = some p) : 31 ≤ p ∧ p ≤ 2017 := h p (List.mem_of_getElem? hp)
theorem Fine.new (n : Nat) : Fine (List.replicate n 1024) := by
  intro p hp
  rw [List.eq_of_mem_replicate hp]
  omega
theorem Fine.set {l : List Int} (h : Fine l) (i : Nat) {p : Int} (hp : 31 ≤ p ∧ p ≤ 2017) : Fine (l.set i p) := by
  intro q hq
  rcases List.mem_or_eq_of_mem_set hq with hq | rfl
  · exact h q hq
  · exact hp
end B

section
variable {E w : World} {M : List HA} {Q : Value → World → Prop} {b : Nat} {l : List Int}

theorem PSet.opn (hS : Sat E w (PSet b l :: M)) : ∃ s : Sl, Sat E w (cel b ⟨254, [.slice s.a l.length s.c]⟩ :: rows cd_int s l :: M) := by
  obtain ⟨s, hS⟩ := hS.ex
  exact ⟨s, hS.open_ (M := [_, _]) fun _ h => h⟩
theorem PSet.shut {s : Sl} {L N : List HA} {o : Ob} (hS : Sat E w L) [h1 : Fnd (cel b) L o N] [h2 : Fnd (rows cd_int s) N l M] (ho : o = ⟨254, [.slice s.a l.length s.c]⟩) : Sat E w (PSet b l :: M) := by
  subst ho
  exact Sat.shut (M := [_, _]) (hS.fd2 (cel b) (rows cd_int s)) fun _ h => ⟨s, h⟩

theorem Len_ok (hS : Sat E w (PSet b l :: M)) (hQ : ∀ w, Sat E w (PSet b l :: M) → Q (.int .i64 l.length) w) : Calls Tryz.prog 225 #[.pointer (some ⟨b, 0, none⟩)] w (retP Q) := by
  refine prob_Set_Len.calls ?_
  unfold prob_Set_Len.F
  obtain ⟨s, hS⟩ := PSet.opn hS
  repeat' (first | refine pN_l hS (by first | rfl | assumption) ?_ | refine pN_v (hk := ?_) | fail)
  exact hQ _ (PSet.shut (b := b) (s := s) hS rfl)

theorem has_ok (hS : Sat E w (PSet b l :: M)) (i : Int) (hQ : ∀ w, Sat E w (PSet b l :: M) → Q (.int .i64 (if 0 ≤ i ∧ i < l.length then 0 else 7)) w) : Calls Tryz.prog 199 #[.pointer (some ⟨b, 0, none⟩), .int .i64 i] w (retP Q) := by
  refine prob_Set_has.calls ?_
  unfold prob_Set_has.F
  obtain ⟨s, hS⟩ := PSet.opn hS
  repeat' (first | ((first | refine pN_lss_s ?_ ?_ | refine pN_geq_s ?_ ?_) <;> intro hc <;> try (exfalso; omega)) | refine pIf_t ?_ | refine pIf_f ?_ | refine pGd_go (by rfl) ?_ | refine pGd_no (by rfl) ?_ | refine pN_l hS (by first | rfl | assumption) ?_ | refine pN_v (hk := ?_) | fail)
  all_goals (have := hQ _ (PSet.shut (b := b) (s := s) hS rfl); first | (rw [if_neg (by omega)] at this; exact this) | (rw [if_pos (by omega)] at this; exact this))

theorem taken_ok (p : Int) (hQ : Q (.int .i64 (B.taken p)) w) : Calls Tryz.prog 201 #[.int .i64 p] w (retP Q) := by
  refine prob_taken.calls ?_
  unfold prob_taken.F
  repeat' (first | refine pN_v (hk := ?_) | fail)
  exact hQ

theorem Next_ok (p bit : Int) (hQ : Q (.int .i64 (B.next p bit)) w) : Calls Tryz.prog 200 #[.int .i64 p, .int .i64 bit] w (retP Q) := by
  refine prob_Next.calls ?_
  unfold prob_Next.F
  have h1 := B.taken_lo p
  have h2 := B.taken_hi p
  refine pc_prob_taken (taken_ok p ?_)
  repeat' (first | (refine pN_eql_s ?_ ?_ <;> intro hc <;> try (exfalso; first | omega | exact hc rfl | exact hc (by assumption) | exact absurd hc (by assumption))) | refine pIf_t ?_ | refine pIf_f ?_ | refine pN_v (hk := ?_) | fail)
  · rw [B.next, if_pos hc] at hQ; exact hQ
  · rw [B.next, if_neg hc] at hQ; exact hQ

theorem Bound_ok (rng p : Int) (h0 : 0 ≤ rng) (h1 : rng < 4294967296) (hQ : Q (.int .u32 (B.bound rng p)) w) : Calls Tryz.prog 184 #[.int .u32 rng, .int .i64 p] w (retP Q) := by
  refine prob_Bound.calls ?_
  unfold prob_Bound.F
  have h3 := B.taken_lo p
  have h4 := B.taken_hi p
  have h5 := B.bound_lo (rng := rng) (p := p) h0
  have h6 := B.bound_le (rng := rng) (p := p) h0
  unfold B.bound at h5 h6 hQ
  repeat' (first | refine pN_v (hk := ?_) | fail)
  refine pc_prob_taken (taken_ok p ?_)
  repeat' (first | refine pN_v (hk := ?_) | fail)
  exact hQ

theorem costing_ok (i : Int) (h0 : 0 ≤ i) (h1 : i ≤ 2000) (hQ : Q (.int .i64 (B.costing i)) w) : Calls Tryz.prog 261 #[.int .i64 i] w (retP Q) := by
  refine prob_costing.calls ?_
  unfold prob_costing.F
  repeat' (first | refine pN_v (hk := ?_) | fail)
  refine ⟨fun v c k w' => ∃ (x c' : Int) (j : Nat), v = .int .i64 x ∧ c = .int .i64 c' ∧ k = .int .i64 j ∧ j ≤ 4 ∧ x < 65536 ∧ 0 ≤ x ∧ 0 ≤ c' ∧ c' < 32 ^ j ∧ B.sq (4 - j) (x, c') = B.sq 4 (16 * i + 8, 0) ∧ w' = w, fun _ _ k _ => 4 - (RowKit.intOf k).toNat,
    ⟨16 * i + 8, 0, 0, rfl, rfl, rfl, by omega, by omega, by omega, by omega, by decide, rfl, rfl⟩, ?_⟩
  rintro _ _ _ _ w1 ⟨x, c, j, rfl, rfl, rfl, hj, a1, a2, a3, a4, a5, rfl⟩
  have a6 : (32 : Int) ^ j ≤ 1048576 := by
    have : j = 0 ∨ j = 1 ∨ j = 2 ∨ j = 3 ∨ j = 4 := by omega
    rcases this with rfl | rfl | rfl | rfl | rfl <;> decide
  have a7 : 0 ≤ x * x := Int.mul_nonneg a2 a2
  have a8 : x * x ≤ 65535 * 65535 := Int.mul_le_mul (by omega) (by omega) a2 (by omega)
  repeat' (first | (refine pN_lss_s ?_ ?_ <;> intro hc <;> try (exfalso; omega)) | refine pIf_t ?_ | refine pIf_f ?_ | refine pN_v (hk := ?_) | fail)
  · refine ⟨fun v k w' => ∃ (y d : Int) (f : Nat), v = .int .i64 y ∧ k = .int .i64 d ∧ f ≤ 20 ∧ 0 ≤ y ∧ y < 65536 * 2 ^ f ∧ y < 8589934592 ∧ 0 ≤ d ∧ d + f ≤ c * 2 + 20 ∧ B.halve f y d = B.halve 20 (x * x) (c * 2) ∧ w' = w1, fun v _ _ => (RowKit.intOf v).toNat,
      ⟨x * x, c * 2, 20, rfl, rfl, by omega, a7, by have e : (65536 : Int) * 2 ^ 20 = 68719476736 := by decide
                                                    omega, by omega, by omega, by omega, rfl, rfl⟩, ?_⟩
    rintro _ _ _ w2 ⟨y, d, f, rfl, rfl, hf, b1, b2, b3, b4, b5, b6, rfl⟩
    repeat' (first | (refine pN_geq_s ?_ ?_ <;> intro hc <;> try (exfalso; omega)) | refine pIf_t ?_ | refine pIf_f ?_ | refine pN_v (hk := ?_) | fail)
    · obtain ⟨f, rfl⟩ : ∃ g, f = g + 1 := ⟨f - 1, by
        rcases Nat.eq_zero_or_pos f with rfl | h
        · simp at b2; omega
        · omega⟩
      rw [B.halve, if_pos (by omega)] at b6
      rw [Int.pow_succ] at b2
      exact ⟨⟨y / 2, d + 1, f, rfl, rfl, by omega, by omega, by omega, by omega, by omega, by omega, b6, rfl⟩, by simp [RowKit.intOf] <;> omega⟩
    · rw [B.halve_stop f d (by omega)] at b6
      refine ⟨⟨y, d, j + 1, rfl, rfl, rfl, by omega, by omega, b1, b4, ?_, ?_, rfl⟩, by simp [RowKit.intOf] <;> omega⟩
      · rw [Int.pow_succ]; omega
      · rw [← a5, show 4 - j = (4 - (j + 1)) + 1 from by omega, B.sq]
        simp only [B.square]
        rw [← b6]
  · obtain rfl : j = 4 := by omega
    have e : B.costing i = 161 - c := by
      have : B.sq 4 (16 * i + 8, 0) = (x, c) := a5.symm
      have e2 : B.costing i = 161 - (B.sq 4 (16 * i + 8, 0)).2 := rfl
      rw [e2, this]
    rw [← e]
    exact hQ

theorem Cost_ok (p bit : Int) (hQ : Q (.int .i64 (B.cost p bit)) w) : Calls Tryz.prog 258 #[.int .i64 p, .int .i64 bit] w (retP Q) := by
  refine prob_Cost.calls ?_
  unfold prob_Cost.F
  have h1 := B.taken_lo p
  have h2 := B.taken_hi p
  unfold B.cost at hQ
  refine pc_prob_taken (taken_ok p ?_)
  repeat' (first | (refine pN_neq_s ?_ ?_ <;> intro hc <;> try (exfalso; first | omega | exact hc rfl | exact hc (by assumption) | exact absurd hc (by assumption))) | refine pIf_t ?_ | refine pIf_f ?_ | refine pN_v (hk := ?_) | refine ⟨_, ?_, fun _ _ _ h => h⟩ | fail)
  · rw [if_pos (by omega)] at hQ
    refine pc_prob_costing (costing_ok _ (by omega) (by omega) ?_)
    skip
    exact hQ
  · rw [if_neg (by omega)] at hQ
    refine pc_prob_costing (costing_ok _ (by omega) (by omega) ?_)
    skip
    exact hQ

theorem At_ok (hS : Sat E w (PSet b l :: M)) (i : Int) (hQ : ∀ w, Sat E w (PSet b l :: M) → Q (.tuple #[.int .i64 (if 0 ≤ i ∧ i < l.length then l.getD i.toNat 0 else 0), .int .i64 (if 0 ≤ i ∧ i < l.length then 0 else 7)]) w) :
    Calls Tryz.prog 179 #[.pointer (some ⟨b, 0, none⟩), .int .i64 i] w (retP Q) := by
  refine prob_Set_At.calls ?_
  unfold prob_Set_At.F
  refine pc_prob_Set_has (has_ok hS i fun w hS => ?_)
  have := hQ w
  by_cases h : 0 ≤ i ∧ i < l.length
  · simp only [if_pos h] at hQ ⊢
    obtain ⟨s, hS⟩ := PSet.opn hS
    repeat' (first | (refine pN_neq_s ?_ ?_ <;> intro hc <;> try (exfalso; first | omega | exact hc rfl | exact hc (by assumption) | exact absurd hc (by assumption))) | refine pIf_f ?_ | refine pN_l hS (by first | rfl | assumption) ?_ | refine pN_ld1 ha hS ?_ | refine pN_ix hS _ (by first | rfl | (exact (Int.toNat_of_nonneg (by omega)).symm)) (by first | rfl | omega | simpa only [go_sem] using True.intro | (simp only [go_sem]; omega)) (by first | omega | (simp only [go_sem]; omega)) fun a x hx ha hel => ?_ | refine pN_v (hk := ?_) | fail)
    rw [List.getD_eq_getElem?_getD, hx] at hQ
    exact hQ _ (PSet.shut (b := b) (s := s) hS rfl)
  · simp only [if_neg h] at hQ ⊢
    repeat' (first | (refine pN_neq_s ?_ ?_ <;> intro hc <;> try (exfalso; first | omega | exact hc rfl | exact hc (by assumption) | exact absurd hc (by assumption))) | refine pIf_t ?_ | fail)
    exact hQ _ hS

theorem At_in (hS : Sat E w (PSet b l :: M)) (i : Int) {x : Int} (h0 : 0 ≤ i) (hx : l[i.toNat]? = some x) (hQ : ∀ w, Sat E w (PSet b l :: M) → Q (.tuple #[.int .i64 x, .int .i64 0]) w) :
    Calls Tryz.prog 179 #[.pointer (some ⟨b, 0, none⟩), .int .i64 i] w (retP Q) := by
  have hlt : i.toNat < l.length := (List.getElem?_eq_some_iff.1 hx).1
  refine At_ok hS i fun w hS => ?_
  have e : l.getD i.toNat 0 = x := by rw [List.getD_eq_getElem?_getD, hx]; rfl
  rw [if_pos (by omega), if_pos (by omega), e]
  exact hQ w hS
theorem At_no (hS : Sat E w (PSet b l :: M)) (i : Int) (h : ¬ (0 ≤ i ∧ i < l.length)) (hQ : ∀ w, Sat E w (PSet b l :: M) → Q (.tuple #[.int .i64 0, .int .i64 7]) w) :
    Calls Tryz.prog 179 #[.pointer (some ⟨b, 0, none⟩), .int .i64 i] w (retP Q) := by
  refine At_ok hS i fun w hS => ?_
  rw [if_neg h, if_neg h]
  exact hQ w hS

theorem Turn_ok (hS : Sat E w (PSet b l :: M)) (i bit : Int) (hQ : ∀ w, Sat E w (PSet b (if 0 ≤ i ∧ i < l.length then l.set i.toNat (B.next (l.getD i.toNat 0) bit) else l) :: M) → Q (.int .i64 (if 0 ≤ i ∧ i < l.length then 0 else 7)) w) :
    Calls Tryz.prog 182 #[.pointer (some ⟨b, 0, none⟩), .int .i64 i, .int .i64 bit] w (retP Q) := by
  refine prob_Set_Turn.calls ?_
  unfold prob_Set_Turn.F
  refine pc_prob_Set_has (has_ok hS i fun w hS => ?_)
  by_cases h : 0 ≤ i ∧ i < l.length
  · simp only [if_pos h] at hQ ⊢
    obtain ⟨s, hS⟩ := PSet.opn hS
    refine ⟨_, ?_, fun _ _ h => h⟩
    repeat' (first | (refine pN_eql_s ?_ ?_ <;> intro hc <;> try (exfalso; first | omega | exact hc rfl | exact hc (by assumption) | exact absurd hc (by assumption))) | refine pIf_t ?_ | refine pL_l hS (by first | rfl | assumption) ?_ | refine pL_ld1 ha hS ?_ | (refine pDr_go hS ?_; clear hS; intro w hS) | refine pA_ix hS _ (by first | rfl | (exact (Int.toNat_of_nonneg (by omega)).symm)) (by first | rfl | omega | simpa only [go_sem] using True.intro | (simp only [go_sem]; omega)) (by first | omega | (simp only [go_sem]; omega)) fun a x hx ha hel => ?_ | refine pA_v (hk := ?_) | fail)
    refine pc_prob_Next (Next_ok _ bit ?_)
    repeat' (first | refine ⟨trivial, ?_⟩ | refine ⟨⟨(by first | exact run_l hS (by first | rfl | assumption) | exact run_st hS (by first | rfl | omega) | exact run_ld1 ha hS | exact fun _ => run_l hS (by rfl) | exact fun _ => run_st hS (by first | rfl | omega) | exact fun _ => run_ld1 ha hS | exact fun h => Bool.noConfusion h), trivial⟩, ?_⟩ | refine pA_ixk hS _ (by first | rfl | (exact (Int.toNat_of_nonneg (by omega)).symm)) (by first | rfl | omega | simpa only [go_sem] using True.intro | (simp only [go_sem]; omega)) (by assumption) fun a ha hel => ?_ | (refine pN_sr hel hS (by rfl) (by rfl) (by first | omega | (simp only [go_sem]; omega)) ?_; clear hS; intro w hS) | fail)
    have e : l.getD i.toNat 0 = x := by rw [List.getD_eq_getElem?_getD, hx]; rfl
    rw [e] at hQ
    exact hQ _ (PSet.shut (b := b) (s := s) hS (by rw [List.length_set]))
  · simp only [if_neg h] at hQ ⊢
    refine ⟨_, ?_, fun _ _ h => h⟩
    repeat' (first | (refine pN_eql_s ?_ ?_ <;> intro hc <;> try (exfalso; first | omega | exact hc rfl | exact hc (by assumption) | exact absurd hc (by assumption))) | refine pIf_f ?_ | fail)
    exact hQ _ hS

theorem Reset_ok (hS : Sat E w (PSet b l :: M)) (hQ : ∀ w, Sat E w (PSet b (List.replicate l.length 1024) :: M) → Q (.tuple #[]) w) : Calls Tryz.prog 174 #[.pointer (some ⟨b, 0, none⟩)] w (retP Q) := by
  refine prob_Set_Reset.calls ?_
  unfold prob_Set_Reset.F
  obtain ⟨s, hS⟩ := PSet.opn hS
  have hlen := rows_len (C := cd_int) s hS
  repeat' (first | refine pN_l hS (by first | rfl | assumption) ?_ | refine pN_v (hk := ?_) | fail)
  refine ⟨fun v w => ∃ k : Nat, v = .int .i64 k ∧ k ≤ l.length ∧ Sat E w (cel b ⟨254, [.slice s.a l.length s.c]⟩ :: rows cd_int s (List.replicate k 1024 ++ l.drop k) :: M), fun v _ => l.length - (RowKit.intOf v).toNat, ⟨0, rfl, Nat.zero_le _, hS⟩, ?_⟩
  rintro _ _ w ⟨k, rfl, hk, hS⟩
  have e : (List.replicate k 1024 ++ l.drop k).length = l.length := by simp; omega
  repeat' (first | (refine pN_lss_s ?_ ?_ <;> intro hc <;> try (exfalso; omega)) | refine pIf_t ?_ | refine pIf_f ?_ | refine pN_l hS (by first | rfl | assumption) ?_ | refine pN_ix hS _ (by first | rfl | (exact (Int.toNat_of_nonneg (by omega)).symm)) (by first | rfl | omega | simpa only [go_sem] using True.intro | (simp only [go_sem]; omega)) (by first | omega | (simp only [go_sem]; omega)) fun a x hx ha hel => ?_ | (refine pN_sr hel hS (by rfl) (by rfl) (by first | omega | (simp only [go_sem]; omega)) ?_; clear hS; intro w hS) | refine pN_v (hk := ?_) | fail)
  · refine ⟨⟨k + 1, rfl, by omega, ?_⟩, by simp [RowKit.intOf]; omega⟩
    have e2 : (List.replicate k (1024 : Int) ++ l.drop k).set k 1024 = List.replicate (k + 1) 1024 ++ l.drop (k + 1) := by
      rw [List.set_append_right _ _ (by simp), List.length_replicate, Nat.sub_self, List.replicate_succ', List.append_assoc]
      have : k < l.length := by omega
      rw [List.drop_eq_getElem_cons this]
      rfl
    rw [e2] at hS
    exact hS.to
  · obtain rfl : k = l.length := by omega
    rw [List.drop_length, List.append_nil] at hS
    exact hQ _ (PSet.shut (b := b) (s := s) hS (by rw [List.length_replicate]))

theorem New_ok (hS : Sat E w M) (n : Int) (h0 : 0 ≤ n) (h1 : n ≤ 1048576) (hQ : ∀ b w, Sat E w (PSet b (List.replicate n.toNat 1024) :: M) → Q (.tuple #[.pointer (some ⟨b, 0, none⟩), .int .i64 0]) w) :
    Calls Tryz.prog 141 #[.int .i64 n] w (retP Q) := by
  refine prob_New.calls ?_
  unfold prob_New.F
  repeat' (first | ((first | refine pN_lss_s ?_ ?_ | refine pN_gtr_s ?_ ?_) <;> intro hc <;> try (exfalso; omega)) | refine pIf_f ?_ | refine pGd_go (by rfl) ?_ | (refine pN_bx hS (by rfl) ?_; clear hS; intro a w hS) | (refine pN_mk hS _ (by first | rfl | (exact (Int.toNat_of_nonneg (by omega)).symm)) (by first | omega | (simp only [go_sem]; omega)) ?_; clear hS; intro s w hS) | refine pN_v (hk := ?_) | fail)
  have hS : Sat E w (PSet a (List.replicate n.toNat 0) :: M) := PSet.shut (b := a) (s := s) hS (by rw [List.length_replicate])
  refine pc_prob_Set_Reset (Reset_ok hS fun w hS => ?_)
  rw [List.length_replicate] at hS
  exact hQ _ _ hS
end

end Go.Proofs.YtbgnnjfpiblkmaaGreatDoor

namespace Go.Proofs.YtbgnnjfpiblkmaaGreatDoor
open Go
namespace R
theorem two_le {m n : Nat} (h : m ≤ n) : (2 : Int) ^ m ≤ 2 ^ n := by
  have := Nat.pow_le_pow_right (n := 2) (by omega) h
  have e : ∀ k : Nat, (2 : Int) ^ k = ((2 ^ k : Nat) : Int) := fun k => by norm_cast
  rw [e, e]; omega
structure TS where
  s : S
  l : List Int
def bitAt (back : Bool) (n : Nat) (v : Int) (k : Nat) : Int := v / 2 ^ (if back then k else n - 1 - k) % 2
def node (bs : Nat → Int) : Nat → Int
  | 0 => 1
  | k + 1 => 2 * node bs k + bs k
def TS.bit (a : TS) (i bit : Int) : TS := ⟨a.s.cut (B.bound a.s.R (a.l.getD i.toNat 0)) bit, a.l.set i.toNat (B.next (a.l.getD i.toNat 0) bit)⟩
def TS.put (a : TS) (at_ : Int) (bs : Nat → Int) : Nat → TS
  | 0 => a
  | k + 1 => (TS.put a at_ bs k).bit (at_ + node bs k) (bs k)
def costs (l : List Int) (at_ : Int) (bs : Nat → Int) : Nat → Int
  | 0 => 0
  | k + 1 => costs l at_ bs k + B.cost (l.getD (at_ + node bs k).toNat 0) (bs k)
def There (len : Nat) (at_ n : Int) : Prop := 0 ≤ n ∧ n ≤ 16 ∧ 0 ≤ at_ ∧ at_ ≤ len ∧ 2 ^ n.toNat ≤ len - at_
def Holds (v n : Int) : Prop := 0 ≤ v ∧ v < 2 ^ n.toNat
instance (len : Nat) (at_ n : Int) : Decidable (There len at_ n) := by unfold There; infer_instance
instance (v n : Int) : Decidable (Holds v n) := by unfold Holds; infer_instance

theorem bitAt_01 (back : Bool) (n : Nat) (v : Int) (k : Nat) : 0 ≤ bitAt back n v k ∧ bitAt back n v k ≤ 1 := by
  unfold bitAt; omega
theorem node_lo {bs : Nat → Int} (hb : ∀ k, 0 ≤ bs k ∧ bs k ≤ 1) : ∀ k : Nat, (2 : Int) ^ k ≤ node bs k ∧ node bs k < 2 ^ (k + 1)
  | 0 => by simp [node]
  | k + 1 => by
    have ⟨h1, h2⟩ := node_lo hb k
    have := hb k
    simp only [Int.pow_succ, node] at h2 ⊢
    generalize (2 : Int) ^ k = W at *
    omega
theorem costing_small : ∀ i : Int, 0 ≤ i → i ≤ 127 → 0 ≤ B.costing i ∧ B.costing i ≤ 161 := by
  have h : ∀ j : Fin 128, 0 ≤ B.costing (j.val : Int) ∧ B.costing (j.val : Int) ≤ 161 := by decide +kernel
  intro i h0 h1
  have := h ⟨i.toNat, by omega⟩
  simp only [Int.toNat_of_nonneg h0] at this
  exact this
theorem _root_.Go.Proofs.YtbgnnjfpiblkmaaGreatDoor.B.cost_small (p bit : Int) : 0 ≤ B.cost p bit ∧ B.cost p bit ≤ 161 := by
  have h1 := B.taken_lo p
  have h2 := B.taken_hi p
  unfold B.cost
  split
  · exact costing_small _ (by omega) (by omega)
  · exact costing_small _ (by omega) (by omega)
theorem costs_small (l : List Int) (at_ : Int) (bs : Nat → Int) : ∀ k : Nat, 0 ≤ costs l at_ bs k ∧ costs l at_ bs k ≤ 161 * k
  | 0 => ⟨Int.le_refl _, Int.le_refl _⟩
  | k + 1 => by
    have ⟨h1, h2⟩ := costs_small l at_ bs k
    have := B.cost_small (l.getD (at_ + node bs k).toNat 0) (bs k)
    simp only [costs]
    omega
structure TS.Ok (a : TS) : Prop where
  s : R.Ok a.s
  f : B.Fine a.l
theorem TS.Ok.bit {a : TS} (h : a.Ok) {i : Int} (h0 : 0 ≤ i) (h1 : i < a.l.length) (bit : Int) : (a.bit i bit).Ok ∧ (a.bit i bit).s.k ≤ a.s.k + 3 := by
  have hx : a.l[i.toNat]? = some (a.l.getD i.toNat 0) := by
    rw [List.getD_eq_getElem?_getD, List.getElem?_eq_getElem (show i.toNat < a.l.length by omega)]; rfl
  have hp := h.f.get hx
  have c1 := B.bound_pos (rng := a.s.R) h.s.r0 hp.1
  have c2 := B.bound_lt (rng := a.s.R) (p := a.l.getD i.toNat 0) h.s.r0
  exact ⟨⟨h.s.cut _ _ c1 c2, h.f.set _ ⟨B.next_lo _ hp.1 hp.2, B.next_hi _ hp.1 hp.2⟩⟩, cut_k h.s _ _ c1 c2⟩
theorem TS.bit_len (a : TS) (i bit : Int) : (a.bit i bit).l.length = a.l.length := by simp [TS.bit]
theorem TS.put_len (a : TS) (at_ : Int) (bs : Nat → Int) : ∀ k, (a.put at_ bs k).l.length = a.l.length
  | 0 => rfl
  | k + 1 => by rw [TS.put, TS.bit_len, TS.put_len a at_ bs k]
theorem There.place {len : Nat} {at_ n : Int} (h : There len at_ n) {bs : Nat → Int} (hb : ∀ k, 0 ≤ bs k ∧ bs k ≤ 1) {k : Nat} (hk : k < n.toNat) : 0 ≤ at_ + node bs k ∧ at_ + node bs k < len ∧ at_ < at_ + node bs k := by
  obtain ⟨h1, h2, h3, h4, h5⟩ := h
  have ⟨i1, i2⟩ := node_lo hb k
  have p : (0 : Int) < 2 ^ k := Int.pow_pos (by omega)
  have : (2 : Int) ^ (k + 1) ≤ 2 ^ n.toNat := two_le (by omega)
  omega
theorem TS.Ok.put {a : TS} (h : a.Ok) {at_ n : Int} (ht : There a.l.length at_ n) {bs : Nat → Int} (hb : ∀ k, 0 ≤ bs k ∧ bs k ≤ 1) : ∀ k : Nat, k ≤ n.toNat → (a.put at_ bs k).Ok ∧ (a.put at_ bs k).s.k ≤ a.s.k + 3 * k
  | 0, _ => ⟨h, Nat.le_refl _⟩
  | k + 1, hk => by
    have ⟨i1, i2⟩ := TS.Ok.put h ht hb k (by omega)
    have hp := ht.place hb (k := k) (by omega)
    have hl := a.put_len at_ bs k
    have ⟨j1, j2⟩ := i1.bit (i := at_ + node bs k) hp.1 (by omega) (bs k)
    exact ⟨j1, by simp only [TS.put]; omega⟩
end R
end Go.Proofs.YtbgnnjfpiblkmaaGreatDoor

namespace Go.Proofs.YtbgnnjfpiblkmaaGreatDoor
open Go
set_option maxRecDepth 100000

def symbol_Apply.H : Hints := { cut := fun | 15 => some ([10, 11], 590295810358701460480) | _ => none, loop := fun  | _ => ([], 0), order := fun | 12 => [(0, 0), (1, 1), (2, 3), (3, 7), (4, 15), (5, 31), (6, 63), (7, 127), (8, 255), (9, 511), (10, 1023), (11, 2047), (12, 4095), (13, 8191)] | 17 => [(0, 0), (1, 1), (2, 3), (3, 7), (4, 15)] | _ => [] }
def symbol_Apply.F [Pan] (x0 x1 x2 : Value) (w : World) (Q : Value → World → Prop) : Prop :=
 pN Tryz.prog (oBox 100 x1) w fun x4 w1 =>
 pN Tryz.prog (oBox 48 x2) w1 fun x5 w2 =>
 pN Tryz.prog (oAlloc 100) w2 fun x7 w3 =>
 pN Tryz.prog (oLoad 100 x4) w3 fun x13 w4 =>
 pN Tryz.prog (oLoad 48 x5) w4 fun x14 w5 =>
 pN Tryz.prog (oCall 92 [x13, x14]) w5 fun x15 w6 =>
 pN Tryz.prog (oExt x15 0) w6 fun x16 w7 =>
 pN Tryz.prog (oExt x15 1) w7 fun x17 w8 =>
 pN Tryz.prog (oAlloc 100) w8 fun x9 w9 =>
 pN Tryz.prog (oStore 100 x9 x16) w9 fun _ w10 =>
 pN Tryz.prog (oBin .neq 38 (.tmp 18) (.const (.int .i64 0)) x17 (.int .i64 0)) w10 fun x19 w11 =>
 pIf x19
 (pN Tryz.prog (oBuild 100 []) w11 fun x20 w12 =>
 pN Tryz.prog (oStore 100 x7 x20) w12 fun _ w13 =>
 pL Tryz.prog (oRes 100 x7) w13 fun r7 =>
 Q (.tuple #[(.slice none 0 0), r7, x17]) w13)
 (∃ I15 : Value → Value → World → Prop,
 (pN Tryz.prog (oFld 48 x5 0) w11 fun x22 w14 =>
 pN Tryz.prog (oLoad 3 x22) w14 fun x23 w15 =>
 pN Tryz.prog (oBin .eql 3 (.tmp 23) (.const (.int .i64 1)) x23 (.int .i64 1)) w15 fun x25 w16 =>
 pIf x25
 (pN Tryz.prog (oFld 48 x5 1) w16 fun x26 w17 =>
 pN Tryz.prog (oLoad 5 x26) w17 fun x27 w18 =>
 pN Tryz.prog (oBs 30 1 [(0, x27)]) w18 fun x28 w19 =>
 pN Tryz.prog (oFld 48 x5 1) w19 fun x30 w20 =>
 pN Tryz.prog (oLoad 5 x30) w20 fun x31 w21 =>
 pN Tryz.prog (oBs 30 1 [(0, x31)]) w21 fun x32 w22 =>
 pN Tryz.prog (oCall 46 [x0, x32]) w22 fun _ w23 =>
 I15 x17 x28 w23)
 (pN Tryz.prog (oBin .eql 3 (.tmp 23) (.const (.int .i64 2)) x23 (.int .i64 2)) w16 fun x35 w24 =>
 pIf x35
 (pN Tryz.prog (oFld 48 x5 3) w24 fun x38 w25 =>
 pN Tryz.prog (oLoad 3 x38) w25 fun x39 w26 =>
 pN Tryz.prog (oFld 48 x5 2) w26 fun x40 w27 =>
 pN Tryz.prog (oLoad 3 x40) w27 fun x41 w28 =>
 pN Tryz.prog (oCall 93 [x0, x39, x41]) w28 fun x42 w29 =>
 pN Tryz.prog (oExt x42 0) w29 fun x43 w30 =>
 pN Tryz.prog (oExt x42 1) w30 fun x44 w31 =>
 I15 x44 x43 w31)
 (pN Tryz.prog (oBin .eql 3 (.tmp 23) (.const (.int .i64 3)) x23 (.int .i64 3)) w24 fun x46 w32 =>
 pIf x46
 (pDr w32 fun w33 =>
 pA Tryz.prog (oFld 48 x5 3) fun x49 =>
 pL Tryz.prog (oLoad 3 x49) w33 fun x50 =>
 pA Tryz.prog (oFld 100 x4 1) fun x51 =>
 pA Tryz.prog (oIdx 67 x51 x50) fun x52 =>
 pL Tryz.prog (oLoad 3 x52) w33 fun x53 =>
 pA Tryz.prog (oFld 48 x5 2) fun x54 =>
 pL Tryz.prog (oLoad 3 x54) w33 fun x55 =>
 pN Tryz.prog (oCall 93 [x0, x53, x55]) w33 fun x56 w34 =>
 (True) ∧ (pA Tryz.prog (oExt x56 0) fun x57 =>
 pA Tryz.prog (oExt x56 1) fun x58 =>
 I15 x58 x57 w34))
 (pN Tryz.prog (oBin .eql 3 (.tmp 23) (.const (.int .i64 4)) x23 (.int .i64 4)) w32 fun x60 w35 =>
 pIf x60
 (pN Tryz.prog (oFld 100 x4 1) w35 fun x63 w36 =>
 pN Tryz.prog (oIdx 67 x63 (.int .i64 0)) w36 fun x64 w37 =>
 pN Tryz.prog (oLoad 3 x64) w37 fun x65 w38 =>
 pN Tryz.prog (oCall 93 [x0, x65, (.int .i64 1)]) w38 fun x66 w39 =>
 pN Tryz.prog (oExt x66 0) w39 fun x67 w40 =>
 pN Tryz.prog (oExt x66 1) w40 fun x68 w41 =>
 I15 x68 x67 w41)
 (I15 x17 (.slice none 0 0) w35))))) ∧
 ∀ (_j15 : Env) (e10c15 : Value) (b11c15 : Value) (w42 : World), I15 e10c15 b11c15 w42 →
 pN Tryz.prog (oBin .neq 38 (.tmp 69) (.const (.int .i64 0)) e10c15 (.int .i64 0)) w42 fun x70 w43 =>
 pIf x70
 (pN Tryz.prog (oBuild 100 []) w43 fun x71 w44 =>
 pN Tryz.prog (oStore 100 x7 x71) w44 fun _ w45 =>
 pL Tryz.prog (oRes 100 x7) w45 fun r7 =>
 Q (.tuple #[(.slice none 0 0), r7, e10c15]) w45)
 (pDr w43 fun w46 =>
 pL Tryz.prog (oLoad 100 x9) w46 fun x74 =>
 pN Tryz.prog (oStore 100 x7 x74) w46 fun _ w47 =>
 (True) ∧ (pL Tryz.prog (oRes 100 x7) w47 fun r7 =>
 Q (.tuple #[b11c15, r7, (.int .i64 0)]) w47)))
theorem symbol_Apply.calls [Pan] {x0 x1 x2 : Value} {w : World} {Q : Value → World → Prop} (h : symbol_Apply.F x0 x1 x2 w Q) : Calls Tryz.prog 48 #[x0, x1, x2] w (retP Q) := calls_lift mixed symbol_Apply.H [x0, x1, x2] Tryz.func48 (by kernel_rfl) (by kernel_rfl) h

end Go.Proofs.YtbgnnjfpiblkmaaGreatDoor

namespace Go.Proofs.YtbgnnjfpiblkmaaGreatDoor
open Go
set_option maxRecDepth 100000

def state_New.F [Pan]  (w : World) (Q : Value → World → Prop) : Prop :=
 pN Tryz.prog (oAlloc 100) w fun x0 w1 =>
 pN Tryz.prog (oBuild 67 [(0, (.int .i64 1)), (1, (.int .i64 1)), (2, (.int .i64 1)), (3, (.int .i64 1))]) w1 fun x1 w2 =>
 pN Tryz.prog (oBuild 100 [(1, x1)]) w2 fun x2 w3 =>
 pN Tryz.prog (oStore 100 x0 x2) w3 fun _ w4 =>
 pL Tryz.prog (oRes 100 x0) w4 fun r0 =>
 Q r0 w4
theorem state_New.calls [Pan]  {w : World} {Q : Value → World → Prop} (h : state_New.F  w Q) : Calls Tryz.prog 43 #[] w (retP Q) := calls_lift mixed .z [] Tryz.func43 (by kernel_rfl) (by kernel_rfl) h

def state_PropsByte.F [Pan] (x0 : Value) (w : World) (Q : Value → World → Prop) : Prop :=
 pN Tryz.prog (oBox 23 x0) w fun x1 w1 =>
 pN Tryz.prog (oFld 23 x1 0) w1 fun x4 w2 =>
 pN Tryz.prog (oLoad 3 x4) w2 fun x5 w3 =>
 pN Tryz.prog (oBin .lss 3 (.tmp 5) (.const (.int .i64 0)) x5 (.int .i64 0)) w3 fun x6 w4 =>
 pGd (gB x6 false) (pN Tryz.prog (oFld 23 x1 1) w4) w4 fun x8 w5 =>
 pGd (gB x6 false) (pN Tryz.prog (oLoad 3 x8) w5) w5 fun x9 w6 =>
 pGd (gB x6 false) (pN Tryz.prog (oBin .lss 3 (.tmp 9) (.const (.int .i64 0)) x9 (.int .i64 0)) w6) w6 fun x10 w7 =>
 pN Tryz.prog (oPick x6 (.bool true) x10) w7 fun x11 w8 =>
 pGd (gB x11 false) (pN Tryz.prog (oFld 23 x1 2) w8) w8 fun x13 w9 =>
 pGd (gB x11 false) (pN Tryz.prog (oLoad 3 x13) w9) w9 fun x14 w10 =>
 pGd (gB x11 false) (pN Tryz.prog (oBin .lss 3 (.tmp 14) (.const (.int .i64 0)) x14 (.int .i64 0)) w10) w10 fun x15 w11 =>
 pN Tryz.prog (oPick x11 (.bool true) x15) w11 fun x16 w12 =>
 pGd (gB x16 false) (pN Tryz.prog (oFld 23 x1 2) w12) w12 fun x18 w13 =>
 pGd (gB x16 false) (pN Tryz.prog (oLoad 3 x18) w13) w13 fun x19 w14 =>
 pGd (gB x16 false) (pN Tryz.prog (oBin .gtr 3 (.tmp 19) (.const (.int .i64 4)) x19 (.int .i64 4)) w14) w14 fun x20 w15 =>
 pN Tryz.prog (oPick x16 (.bool true) x20) w15 fun x21 w16 =>
 pGd (gB x21 false) (pN Tryz.prog (oFld 23 x1 0) w16) w16 fun x23 w17 =>
 pGd (gB x21 false) (pN Tryz.prog (oLoad 3 x23) w17) w17 fun x24 w18 =>
 pGd (gB x21 false) (pN Tryz.prog (oBin .gtr 3 (.tmp 24) (.const (.int .i64 4)) x24 (.int .i64 4)) w18) w18 fun x25 w19 =>
 pN Tryz.prog (oPick x21 (.bool true) x25) w19 fun x26 w20 =>
 pGd (gB x26 false) (pN Tryz.prog (oFld 23 x1 1) w20) w20 fun x28 w21 =>
 pGd (gB x26 false) (pN Tryz.prog (oLoad 3 x28) w21) w21 fun x29 w22 =>
 pGd (gB x26 false) (pN Tryz.prog (oFld 23 x1 0) w22) w22 fun x30 w23 =>
 pGd (gB x26 false) (pN Tryz.prog (oLoad 3 x30) w23) w23 fun x31 w24 =>
 pGd (gB x26 false) (pN Tryz.prog (oBin .sub 3 (.const (.int .i64 4)) (.tmp 31) (.int .i64 4) x31) w24) w24 fun x32 w25 =>
 pGd (gB x26 false) (pN Tryz.prog (oBin .gtr 3 (.tmp 29) (.tmp 32) x29 x32) w25) w25 fun x33 w26 =>
 pN Tryz.prog (oPick x26 (.bool true) x33) w26 fun x34 w27 =>
 pIf x34
 (Q (.tuple #[(.int .i64 0), (.int .i64 6)]) w27)
 (pN Tryz.prog (oFld 23 x1 2) w27 fun x35 w28 =>
 pN Tryz.prog (oLoad 3 x35) w28 fun x36 w29 =>
 pN Tryz.prog (oBin .mul 3 (.tmp 36) (.const (.int .i64 5)) x36 (.int .i64 5)) w29 fun x37 w30 =>
 pN Tryz.prog (oFld 23 x1 1) w30 fun x38 w31 =>
 pN Tryz.prog (oLoad 3 x38) w31 fun x39 w32 =>
 pN Tryz.prog (oBin .add 3 (.tmp 37) (.tmp 39) x37 x39) w32 fun x40 w33 =>
 pN Tryz.prog (oBin .mul 3 (.tmp 40) (.const (.int .i64 9)) x40 (.int .i64 9)) w33 fun x41 w34 =>
 pN Tryz.prog (oFld 23 x1 0) w34 fun x42 w35 =>
 pN Tryz.prog (oLoad 3 x42) w35 fun x43 w36 =>
 pN Tryz.prog (oBin .add 3 (.tmp 41) (.tmp 43) x41 x43) w36 fun x44 w37 =>
 Q (.tuple #[x44, (.int .i64 0)]) w37)
theorem state_PropsByte.calls [Pan] {x0 : Value} {w : World} {Q : Value → World → Prop} (h : state_PropsByte.F x0 w Q) : Calls Tryz.prog 45 #[x0] w (retP Q) := calls_lift mixed .z [x0] Tryz.func45 (by kernel_rfl) (by kernel_rfl) h

def state_State_Next.H : Hints := { cut := fun | 21 => some ([], 79228162514264337593543948384) | _ => none, loop := fun  | _ => ([], 0), order := fun | 19 => [(0, 0), (1, 1), (2, 3), (3, 7), (4, 15), (5, 31), (6, 63)] | _ => [] }
def state_State_Next.F [Pan] (x0 x1 : Value) (w : World) (Q : Value → World → Prop) : Prop :=
 pN Tryz.prog (oBox 100 x0) w fun x2 w1 =>
 pN Tryz.prog (oBox 48 x1) w1 fun x3 w2 =>
 pN Tryz.prog (oAlloc 100) w2 fun x4 w3 =>
 pN Tryz.prog (oLoad 100 x2) w3 fun x7 w4 =>
 pN Tryz.prog (oCall 135 [x7]) w4 fun x8 w5 =>
 pN Tryz.prog (oUn .not x8) w5 fun x9 w6 =>
 pIf x9
 (pN Tryz.prog (oBuild 100 []) w6 fun x10 w7 =>
 pN Tryz.prog (oStore 100 x4 x10) w7 fun _ w8 =>
 pL Tryz.prog (oRes 100 x4) w8 fun r4 =>
 Q (.tuple #[r4, (.int .i64 7)]) w8)
 (∃ I21 : World → Prop,
 (pN Tryz.prog (oFld 48 x3 0) w6 fun x11 w9 =>
 pN Tryz.prog (oLoad 3 x11) w9 fun x12 w10 =>
 pN Tryz.prog (oBin .eql 3 (.tmp 12) (.const (.int .i64 1)) x12 (.int .i64 1)) w10 fun x15 w11 =>
 pIf x15
 (pN Tryz.prog (oFld 100 x2 0) w11 fun x16 w12 =>
 pN Tryz.prog (oLoad 3 x16) w12 fun x17 w13 =>
 pN Tryz.prog (oIdx 234 (.pointer (some ⟨0, 0, none⟩)) x17) w13 fun x18 w14 =>
 pN Tryz.prog (oLoad 3 x18) w14 fun x19 w15 =>
 pN Tryz.prog (oFld 100 x2 0) w15 fun x20 w16 =>
 pN Tryz.prog (oStore 3 x20 x19) w16 fun _ w17 =>
 I21 w17)
 (pN Tryz.prog (oBin .eql 3 (.tmp 12) (.const (.int .i64 4)) x12 (.int .i64 4)) w11 fun x22 w18 =>
 pIf x22
 (pN Tryz.prog (oFld 100 x2 0) w18 fun x23 w19 =>
 pN Tryz.prog (oLoad 3 x23) w19 fun x24 w20 =>
 pN Tryz.prog (oIdx 234 (.pointer (some ⟨1, 0, none⟩)) x24) w20 fun x25 w21 =>
 pN Tryz.prog (oLoad 3 x25) w21 fun x26 w22 =>
 pN Tryz.prog (oFld 100 x2 0) w22 fun x27 w23 =>
 pN Tryz.prog (oStore 3 x27 x26) w23 fun _ w24 =>
 I21 w24)
 (pN Tryz.prog (oBin .eql 3 (.tmp 12) (.const (.int .i64 2)) x12 (.int .i64 2)) w18 fun x29 w25 =>
 pIf x29
 (pN Tryz.prog (oFld 48 x3 2) w25 fun x30 w26 =>
 pN Tryz.prog (oLoad 3 x30) w26 fun x31 w27 =>
 pN Tryz.prog (oCall 136 [x31]) w27 fun x32 w28 =>
 pN Tryz.prog (oUn .not x32) w28 fun x33 w29 =>
 pGd (gB x33 false) (pN Tryz.prog (oFld 48 x3 3) w29) w29 fun x35 w30 =>
 pGd (gB x33 false) (pN Tryz.prog (oLoad 3 x35) w30) w30 fun x36 w31 =>
 pGd (gB x33 false) (pN Tryz.prog (oCall 137 [x36]) w31) w31 fun x37 w32 =>
 pGd (gB x33 false) (pN Tryz.prog (oUn .not x37) w32) w32 fun x38 w33 =>
 pN Tryz.prog (oPick x33 (.bool true) x38) w33 fun x39 w34 =>
 pIf x39
 (pN Tryz.prog (oBuild 100 []) w34 fun x40 w35 =>
 pN Tryz.prog (oStore 100 x4 x40) w35 fun _ w36 =>
 pL Tryz.prog (oRes 100 x4) w36 fun r4 =>
 Q (.tuple #[r4, (.int .i64 7)]) w36)
 (pN Tryz.prog (oFld 100 x2 0) w34 fun x41 w37 =>
 pN Tryz.prog (oLoad 3 x41) w37 fun x42 w38 =>
 pN Tryz.prog (oIdx 234 (.pointer (some ⟨2, 0, none⟩)) x42) w38 fun x43 w39 =>
 pN Tryz.prog (oLoad 3 x43) w39 fun x44 w40 =>
 pN Tryz.prog (oFld 100 x2 0) w40 fun x45 w41 =>
 pN Tryz.prog (oStore 3 x45 x44) w41 fun _ w42 =>
 pN Tryz.prog (oFld 48 x3 3) w42 fun x46 w43 =>
 pN Tryz.prog (oLoad 3 x46) w43 fun x47 w44 =>
 pN Tryz.prog (oFld 100 x2 1) w44 fun x48 w45 =>
 pN Tryz.prog (oIdx 67 x48 (.int .i64 0)) w45 fun x49 w46 =>
 pN Tryz.prog (oLoad 3 x49) w46 fun x50 w47 =>
 pN Tryz.prog (oFld 100 x2 1) w47 fun x51 w48 =>
 pN Tryz.prog (oIdx 67 x51 (.int .i64 1)) w48 fun x52 w49 =>
 pN Tryz.prog (oLoad 3 x52) w49 fun x53 w50 =>
 pN Tryz.prog (oFld 100 x2 1) w50 fun x54 w51 =>
 pN Tryz.prog (oIdx 67 x54 (.int .i64 2)) w51 fun x55 w52 =>
 pN Tryz.prog (oLoad 3 x55) w52 fun x56 w53 =>
 pN Tryz.prog (oBuild 67 [(0, x47), (1, x50), (2, x53), (3, x56)]) w53 fun x57 w54 =>
 pN Tryz.prog (oFld 100 x2 1) w54 fun x58 w55 =>
 pN Tryz.prog (oStore 67 x58 x57) w55 fun _ w56 =>
 I21 w56))
 (pN Tryz.prog (oBin .eql 3 (.tmp 12) (.const (.int .i64 3)) x12 (.int .i64 3)) w25 fun x60 w57 =>
 pIf x60
 (pN Tryz.prog (oFld 48 x3 2) w57 fun x61 w58 =>
 pN Tryz.prog (oLoad 3 x61) w58 fun x62 w59 =>
 pN Tryz.prog (oCall 136 [x62]) w59 fun x63 w60 =>
 pN Tryz.prog (oUn .not x63) w60 fun x64 w61 =>
 pGd (gB x64 false) (pN Tryz.prog (oFld 48 x3 3) w61) w61 fun x66 w62 =>
 pGd (gB x64 false) (pN Tryz.prog (oLoad 3 x66) w62) w62 fun x67 w63 =>
 pGd (gB x64 false) (pN Tryz.prog (oBin .lss 3 (.tmp 67) (.const (.int .i64 0)) x67 (.int .i64 0)) w63) w63 fun x68 w64 =>
 pN Tryz.prog (oPick x64 (.bool true) x68) w64 fun x69 w65 =>
 pGd (gB x69 false) (pN Tryz.prog (oFld 48 x3 3) w65) w65 fun x71 w66 =>
 pGd (gB x69 false) (pN Tryz.prog (oLoad 3 x71) w66) w66 fun x72 w67 =>
 pGd (gB x69 false) (pN Tryz.prog (oBin .gtr 3 (.tmp 72) (.const (.int .i64 3)) x72 (.int .i64 3)) w67) w67 fun x73 w68 =>
 pN Tryz.prog (oPick x69 (.bool true) x73) w68 fun x74 w69 =>
 pIf x74
 (pN Tryz.prog (oBuild 100 []) w69 fun x75 w70 =>
 pN Tryz.prog (oStore 100 x4 x75) w70 fun _ w71 =>
 pL Tryz.prog (oRes 100 x4) w71 fun r4 =>
 Q (.tuple #[r4, (.int .i64 7)]) w71)
 (pN Tryz.prog (oFld 100 x2 0) w69 fun x76 w72 =>
 pN Tryz.prog (oLoad 3 x76) w72 fun x77 w73 =>
 pN Tryz.prog (oIdx 234 (.pointer (some ⟨3, 0, none⟩)) x77) w73 fun x78 w74 =>
 pN Tryz.prog (oLoad 3 x78) w74 fun x79 w75 =>
 pN Tryz.prog (oFld 100 x2 0) w75 fun x80 w76 =>
 pN Tryz.prog (oStore 3 x80 x79) w76 fun _ w77 =>
 pN Tryz.prog (oFld 48 x3 3) w77 fun x81 w78 =>
 pN Tryz.prog (oLoad 3 x81) w78 fun x82 w79 =>
 pN Tryz.prog (oFld 100 x2 1) w79 fun x83 w80 =>
 pN Tryz.prog (oIdx 67 x83 x82) w80 fun x84 w81 =>
 pN Tryz.prog (oLoad 3 x84) w81 fun x85 w82 =>
 pDr w82 fun w83 =>
 pA Tryz.prog (oFld 100 x2 1) fun x86 =>
 pA Tryz.prog (oSl 67 x86 (some (.int .i64 1)) none none) fun x87 =>
 pA Tryz.prog (oFld 100 x2 1) fun x88 =>
 pA Tryz.prog (oFld 48 x3 3) fun x89 =>
 pL Tryz.prog (oLoad 3 x89) w83 fun x90 =>
 pA Tryz.prog (oSl 67 x88 none (some x90) none) fun x91 =>
 pN Tryz.prog (oBi .copy #[217, 217] 3 [false, false] [x87, x91]) w83 fun _ w84 =>
 (True) ∧ (pN Tryz.prog (oFld 100 x2 1) w84 fun x94 w85 =>
 pN Tryz.prog (oIdx 67 x94 (.int .i64 0)) w85 fun x95 w86 =>
 pN Tryz.prog (oStore 3 x95 x85) w86 fun _ w87 =>
 I21 w87)))
 (pN Tryz.prog (oBuild 100 []) w57 fun x13 w88 =>
 pN Tryz.prog (oStore 100 x4 x13) w88 fun _ w89 =>
 pL Tryz.prog (oRes 100 x4) w89 fun r4 =>
 Q (.tuple #[r4, (.int .i64 6)]) w89))))) ∧
 ∀ (_j21 : Env) (w90 : World), I21 w90 →
 pN Tryz.prog (oLoad 100 x2) w90 fun x96 w91 =>
 pN Tryz.prog (oStore 100 x4 x96) w91 fun _ w92 =>
 pL Tryz.prog (oRes 100 x4) w92 fun r4 =>
 Q (.tuple #[r4, (.int .i64 0)]) w92)
theorem state_State_Next.calls [Pan] {x0 x1 : Value} {w : World} {Q : Value → World → Prop} (h : state_State_Next.F x0 x1 w Q) : Calls Tryz.prog 92 #[x0, x1] w (retP Q) := calls_lift mixed state_State_Next.H [x0, x1] Tryz.func92 (by kernel_rfl) (by kernel_rfl) h

def state_State_right.H : Hints := { cut := fun  | _ => none, loop := fun | 2 => ([7], 16276) | _ => ([], 0), order := fun  | _ => [] }
def state_State_right.F [Pan] (x0 : Value) (w : World) (Q : Value → World → Prop) : Prop :=
 pN Tryz.prog (oBox 100 x0) w fun x1 w1 =>
 pN Tryz.prog (oFld 100 x1 1) w1 fun x5 w2 =>
 pN Tryz.prog (oLoad 67 x5) w2 fun x6 w3 =>
 ∃ (L2 : Value → World → Prop) (m2 : Value → World → Nat),
 L2 (.int .i64 0) w3 ∧
 ∀ (_k2 : Env) (v7l2 : Value) (w4 : World), L2 v7l2 w4 →
 pN Tryz.prog (oBin .lss 3 (.tmp 7) (.const (.int .i64 4)) v7l2 (.int .i64 4)) w4 fun x8 w5 =>
 pIf x8
 (pN Tryz.prog (oIndex 67 x6 v7l2) w5 fun x9 w6 =>
 pN Tryz.prog (oCall 137 [x9]) w6 fun x11 w7 =>
 pN Tryz.prog (oUn .not x11) w7 fun x12 w8 =>
 pIf x12
 (Q (.bool false) w8)
 (pN Tryz.prog (oBin .add 3 (.tmp 7) (.const (.int .i64 1)) v7l2 (.int .i64 1)) w8 fun x13 w9 =>
 (L2 x13 w9 ∧ m2 x13 w9 < m2 v7l2 w4)))
 (pN Tryz.prog (oFld 100 x1 0) w5 fun x14 w10 =>
 pN Tryz.prog (oLoad 3 x14) w10 fun x15 w11 =>
 pN Tryz.prog (oBin .geq 3 (.tmp 15) (.const (.int .i64 0)) x15 (.int .i64 0)) w11 fun x16 w12 =>
 pGd (gB x16 true) (pN Tryz.prog (oFld 100 x1 0) w12) w12 fun x18 w13 =>
 pGd (gB x16 true) (pN Tryz.prog (oLoad 3 x18) w13) w13 fun x19 w14 =>
 pGd (gB x16 true) (pN Tryz.prog (oBin .lss 3 (.tmp 19) (.const (.int .i64 12)) x19 (.int .i64 12)) w14) w14 fun x20 w15 =>
 pN Tryz.prog (oPick x16 x20 (.bool false)) w15 fun x21 w16 =>
 Q x21 w16)
theorem state_State_right.calls [Pan] {x0 : Value} {w : World} {Q : Value → World → Prop} (h : state_State_right.F x0 w Q) : Calls Tryz.prog 135 #[x0] w (retP Q) := calls_lift mixed state_State_right.H [x0] Tryz.func135 (by kernel_rfl) (by kernel_rfl) h

def state_isLen.F [Pan] (x0 : Value) (w : World) (Q : Value → World → Prop) : Prop :=
 pN Tryz.prog (oBin .geq 3 (.tmp 3) (.const (.int .i64 2)) x0 (.int .i64 2)) w fun x4 w1 =>
 pGd (gB x4 true) (pN Tryz.prog (oMv x0) w1) w1 fun x6 w2 =>
 pGd (gB x4 true) (pN Tryz.prog (oBin .leq 3 (.tmp 6) (.const (.int .i64 273)) x6 (.int .i64 273)) w2) w2 fun x7 w3 =>
 pN Tryz.prog (oPick x4 x7 (.bool false)) w3 fun x8 w4 =>
 Q x8 w4
theorem state_isLen.calls [Pan] {x0 : Value} {w : World} {Q : Value → World → Prop} (h : state_isLen.F x0 w Q) : Calls Tryz.prog 136 #[x0] w (retP Q) := calls_lift mixed .z [x0] Tryz.func136 (by kernel_rfl) (by kernel_rfl) h

def state_isDist.F [Pan] (x0 : Value) (w : World) (Q : Value → World → Prop) : Prop :=
 pN Tryz.prog (oBin .geq 3 (.tmp 3) (.const (.int .i64 1)) x0 (.int .i64 1)) w fun x4 w1 =>
 pGd (gB x4 true) (pN Tryz.prog (oMv x0) w1) w1 fun x6 w2 =>
 pGd (gB x4 true) (pN Tryz.prog (oBin .leq 3 (.tmp 6) (.const (.int .i64 4294967295)) x6 (.int .i64 4294967295)) w2) w2 fun x7 w3 =>
 pN Tryz.prog (oPick x4 x7 (.bool false)) w3 fun x8 w4 =>
 Q x8 w4
theorem state_isDist.calls [Pan] {x0 : Value} {w : World} {Q : Value → World → Prop} (h : state_isDist.F x0 w Q) : Calls Tryz.prog 137 #[x0] w (retP Q) := calls_lift mixed .z [x0] Tryz.func137 (by kernel_rfl) (by kernel_rfl) h

def state_State_Literal.F [Pan] (x0 : Value) (w : World) (Q : Value → World → Prop) : Prop :=
 pN Tryz.prog (oBox 100 x0) w fun x1 w1 =>
 pN Tryz.prog (oFld 100 x1 0) w1 fun x3 w2 =>
 pN Tryz.prog (oLoad 3 x3) w2 fun x4 w3 =>
 pN Tryz.prog (oBin .geq 3 (.tmp 4) (.const (.int .i64 0)) x4 (.int .i64 0)) w3 fun x5 w4 =>
 pGd (gB x5 true) (pN Tryz.prog (oFld 100 x1 0) w4) w4 fun x7 w5 =>
 pGd (gB x5 true) (pN Tryz.prog (oLoad 3 x7) w5) w5 fun x8 w6 =>
 pGd (gB x5 true) (pN Tryz.prog (oBin .lss 3 (.tmp 8) (.const (.int .i64 7)) x8 (.int .i64 7)) w6) w6 fun x9 w7 =>
 pN Tryz.prog (oPick x5 x9 (.bool false)) w7 fun x10 w8 =>
 Q x10 w8
theorem state_State_Literal.calls [Pan] {x0 : Value} {w : World} {Q : Value → World → Prop} (h : state_State_Literal.F x0 w Q) : Calls Tryz.prog 144 #[x0] w (retP Q) := calls_lift mixed .z [x0] Tryz.func144 (by kernel_rfl) (by kernel_rfl) h

def state_Slot.F [Pan] (x0 : Value) (w : World) (Q : Value → World → Prop) : Prop :=
 pN Tryz.prog (oCall 137 [x0]) w fun x7 w1 =>
 pN Tryz.prog (oUn .not x7) w1 fun x8 w2 =>
 pIf x8
 (Q (.tuple #[(.int .i64 0), (.int .i64 7)]) w2)
 (pN Tryz.prog (oBin .sub 3 (.tmp 9) (.const (.int .i64 1)) x0 (.int .i64 1)) w2 fun x10 w3 =>
 pN Tryz.prog (oConv 3 169 x10) w3 fun x11 w4 =>
 pN Tryz.prog (oBin .lss 169 (.tmp 12) (.const (.int .u64 4)) x11 (.int .u64 4)) w4 fun x13 w5 =>
 pIf x13
 (pN Tryz.prog (oConv 169 3 x11) w5 fun x15 w6 =>
 Q (.tuple #[x15, (.int .i64 0)]) w6)
 (pN Tryz.prog (oCall 175 [x11]) w5 fun x17 w7 =>
 pN Tryz.prog (oBin .sub 3 (.tmp 18) (.const (.int .i64 1)) x17 (.int .i64 1)) w7 fun x19 w8 =>
 pN Tryz.prog (oBin .mul 3 (.const (.int .i64 2)) (.tmp 19) (.int .i64 2) x19) w8 fun x20 w9 =>
 pN Tryz.prog (oBin .sub 3 (.tmp 22) (.const (.int .i64 2)) x17 (.int .i64 2)) w9 fun x23 w10 =>
 pN Tryz.prog (oBin .shr 169 (.tmp 21) (.tmp 23) x11 x23) w10 fun x24 w11 =>
 pN Tryz.prog (oBin .and 169 (.tmp 24) (.const (.int .u64 1)) x24 (.int .u64 1)) w11 fun x25 w12 =>
 pN Tryz.prog (oConv 169 3 x25) w12 fun x26 w13 =>
 pN Tryz.prog (oBin .add 3 (.tmp 20) (.tmp 26) x20 x26) w13 fun x27 w14 =>
 Q (.tuple #[x27, (.int .i64 0)]) w14))
theorem state_Slot.calls [Pan] {x0 : Value} {w : World} {Q : Value → World → Prop} (h : state_Slot.F x0 w Q) : Calls Tryz.prog 145 #[x0] w (retP Q) := calls_lift mixed .z [x0] Tryz.func145 (by kernel_rfl) (by kernel_rfl) h

def state_Range.F [Pan] (x0 : Value) (w : World) (Q : Value → World → Prop) : Prop :=
 pN Tryz.prog (oBin .lss 3 (.tmp 6) (.const (.int .i64 0)) x0 (.int .i64 0)) w fun x7 w1 =>
 pGd (gB x7 false) (pN Tryz.prog (oMv x0) w1) w1 fun x9 w2 =>
 pGd (gB x7 false) (pN Tryz.prog (oBin .gtr 3 (.tmp 9) (.const (.int .i64 63)) x9 (.int .i64 63)) w2) w2 fun x10 w3 =>
 pN Tryz.prog (oPick x7 (.bool true) x10) w3 fun x11 w4 =>
 pIf x11
 (Q (.tuple #[(.int .i64 0), (.int .i64 0), (.int .i64 7)]) w4)
 (pN Tryz.prog (oBin .lss 3 (.tmp 12) (.const (.int .i64 4)) x0 (.int .i64 4)) w4 fun x13 w5 =>
 pIf x13
 (pN Tryz.prog (oBin .add 3 (.tmp 14) (.const (.int .i64 1)) x0 (.int .i64 1)) w5 fun x15 w6 =>
 Q (.tuple #[x15, (.int .i64 0), (.int .i64 0)]) w6)
 (pN Tryz.prog (oBin .quo 3 (.tmp 16) (.const (.int .i64 2)) x0 (.int .i64 2)) w5 fun x17 w7 =>
 pN Tryz.prog (oBin .sub 3 (.tmp 17) (.const (.int .i64 1)) x17 (.int .i64 1)) w7 fun x18 w8 =>
 pN Tryz.prog (oBin .and 3 (.tmp 19) (.const (.int .i64 1)) x0 (.int .i64 1)) w8 fun x20 w9 =>
 pN Tryz.prog (oBin .or 3 (.const (.int .i64 2)) (.tmp 20) (.int .i64 2) x20) w9 fun x21 w10 =>
 pN Tryz.prog (oBin .shl 3 (.tmp 21) (.tmp 22) x21 x18) w10 fun x23 w11 =>
 pN Tryz.prog (oBin .add 3 (.tmp 23) (.const (.int .i64 1)) x23 (.int .i64 1)) w11 fun x24 w12 =>
 Q (.tuple #[x24, x18, (.int .i64 0)]) w12))
theorem state_Range.calls [Pan] {x0 : Value} {w : World} {Q : Value → World → Prop} (h : state_Range.F x0 w Q) : Calls Tryz.prog 146 #[x0] w (retP Q) := calls_lift mixed .z [x0] Tryz.func146 (by kernel_rfl) (by kernel_rfl) h

end Go.Proofs.YtbgnnjfpiblkmaaGreatDoor
