/-
  Texts of one proof, one behind the other: LfPithref15, LfPithref14, LfPithref13, LfPithref10, LfSymbol, LfState, Open, Types, ZSt, Part, Arr, LfBits, Text, BitsLen.
-/
import Derived.Test.YtbgnnjfpiblkmaaGreatDoorRows
import Derived.ProofKit
import Derived.OpenShut
import Derived.ShutString
import Derived.ChangeOld
import Derived.SizedLaws
import Derived.Deep.Slices
import Derived.Deep.CondSized
import Derived.Lib.AppendZerosOnto
import Derived.Lib.BytesEntry
import Derived.Laws.IdiomStrings
import Derived.Test.YtbgnnjfpiblkmaaGreatDoorMg2
set_option linter.unusedSimpArgs false
set_option linter.unnecessarySimpa false
set_option linter.unusedSectionVars false
set_option linter.unusedVariables false

namespace Go.Proofs.YtbgnnjfpiblkmaaGreatDoor
open Go
set_option maxRecDepth 100000

def pithref15_New.F [Pan] (x0 x1 : Value) (w : World) (Q : Value → World → Prop) : Prop :=
 pN Tryz.prog (oBox 23 x0) w fun x2 w1 =>
 pN Tryz.prog (oLoad 23 x2) w1 fun x9 w2 =>
 pN Tryz.prog (oCall 14 [x9, x1]) w2 fun x11 w3 =>
 pN Tryz.prog (oExt x11 0) w3 fun x12 w4 =>
 pN Tryz.prog (oExt x11 1) w4 fun x13 w5 =>
 pN Tryz.prog (oBin .neq 3 (.tmp 14) (.const (.int .i64 0)) x13 (.int .i64 0)) w5 fun x15 w6 =>
 pIf x15
 (Q (.tuple #[(.pointer none), x13]) w6)
 (pN Tryz.prog (oBuild 182 [(0, x12)]) w6 fun x18 w7 =>
 pN Tryz.prog (oBox 182 x18) w7 fun x19 w8 =>
 Q (.tuple #[x19, (.int .i64 0)]) w8)
theorem pithref15_New.calls [Pan] {x0 x1 : Value} {w : World} {Q : Value → World → Prop} (h : pithref15_New.F x0 x1 w Q) : Calls Tryz.prog 54 #[x0, x1] w (retP Q) := calls_lift mixed .z [x0, x1] Tryz.func54 (by kernel_rfl) (by kernel_rfl) h

def pithref15_Decoder_Raw.F [Pan] (x0 x1 : Value) (w : World) (Q : Value → World → Prop) : Prop :=
 pN Tryz.prog (oNil x0) w fun x5 w1 =>
 pN Tryz.prog (oFld 182 x5 0) w1 fun x6 w2 =>
 pN Tryz.prog (oLoad 41 x6) w2 fun x7 w3 =>
 pN Tryz.prog (oNil x7) w3 fun x8 w4 =>
 pN Tryz.prog (oFld 73 x8 1) w4 fun x9 w5 =>
 pN Tryz.prog (oLoad 66 x9) w5 fun x10 w6 =>
 pN Tryz.prog (oCall 78 [x10, x1]) w6 fun _ w7 =>
 Q (.tuple #[]) w7
theorem pithref15_Decoder_Raw.calls [Pan] {x0 x1 : Value} {w : World} {Q : Value → World → Prop} (h : pithref15_Decoder_Raw.F x0 x1 w Q) : Calls Tryz.prog 57 #[x0, x1] w (retP Q) := calls_lift mixed .z [x0, x1] Tryz.func57 (by kernel_rfl) (by kernel_rfl) h

def pithref15_Decoder_Reset.H : Hints := { cut := fun  | _ => none, loop := fun  | _ => ([], 0), order := fun | 1 => [(0, 0), (1, 1), (2, 3), (3, 7), (4, 15), (5, 31), (6, 63)] | _ => [] }
def pithref15_Decoder_Reset.F [Pan] (x0 x1 : Value) (w : World) (Q : Value → World → Prop) : Prop :=
 pN Tryz.prog (oBox 23 x1) w fun x3 w1 =>
 pDr w1 fun w2 =>
 pA Tryz.prog (oNil x0) fun x6 =>
 pA Tryz.prog (oFld 182 x6 0) fun x7 =>
 pL Tryz.prog (oLoad 41 x7) w2 fun x8 =>
 pL Tryz.prog (oLoad 23 x3) w2 fun x9 =>
 pN Tryz.prog (oCall 27 [x8, x9]) w2 fun x10 w3 =>
 (True) ∧ (Q x10 w3)
theorem pithref15_Decoder_Reset.calls [Pan] {x0 x1 : Value} {w : World} {Q : Value → World → Prop} (h : pithref15_Decoder_Reset.F x0 x1 w Q) : Calls Tryz.prog 59 #[x0, x1] w (retP Q) := calls_lift mixed pithref15_Decoder_Reset.H [x0, x1] Tryz.func59 (by kernel_rfl) (by kernel_rfl) h

def pithref15_Decoder_Clear.F [Pan] (x0 : Value) (w : World) (Q : Value → World → Prop) : Prop :=
 pN Tryz.prog (oNil x0) w fun x3 w1 =>
 pN Tryz.prog (oFld 182 x3 0) w1 fun x4 w2 =>
 pN Tryz.prog (oLoad 41 x4) w2 fun x5 w3 =>
 pN Tryz.prog (oCall 29 [x5]) w3 fun _ w4 =>
 pN Tryz.prog (oNil x0) w4 fun x8 w5 =>
 pN Tryz.prog (oFld 182 x8 3) w5 fun x9 w6 =>
 pN Tryz.prog (oStore 4 x9 (.bool false)) w6 fun _ w7 =>
 Q (.tuple #[]) w7
theorem pithref15_Decoder_Clear.calls [Pan] {x0 : Value} {w : World} {Q : Value → World → Prop} (h : pithref15_Decoder_Clear.F x0 w Q) : Calls Tryz.prog 60 #[x0] w (retP Q) := calls_lift mixed .z [x0] Tryz.func60 (by kernel_rfl) (by kernel_rfl) h

def pithref15_Decoder_Take.F [Pan] (x0 x1 x2 : Value) (w : World) (Q : Value → World → Prop) : Prop :=
 pN Tryz.prog (oBin .lss 3 (.tmp 12) (.const (.int .i64 1)) x2 (.int .i64 1)) w fun x13 w1 =>
 pGd (gB x13 false) (pN Tryz.prog (oMv x2) w1) w1 fun x15 w2 =>
 pGd (gB x13 false) (pN Tryz.prog (oBin .gtr 3 (.tmp 15) (.const (.int .i64 2097152)) x15 (.int .i64 2097152)) w2) w2 fun x16 w3 =>
 pN Tryz.prog (oPick x13 (.bool true) x16) w3 fun x17 w4 =>
 pIf x17
 (Q (.tuple #[(.slice none 0 0), (.slice none 0 0), (.int .i64 7)]) w4)
 (pN Tryz.prog (oNil x0) w4 fun x19 w5 =>
 pN Tryz.prog (oFld 182 x19 3) w5 fun x20 w6 =>
 pN Tryz.prog (oLoad 4 x20) w6 fun x21 w7 =>
 pIf x21
 (Q (.tuple #[(.slice none 0 0), (.slice none 0 0), (.int .i64 2)]) w7)
 (pN Tryz.prog (oCall 140 [x0, x1, x2]) w7 fun x26 w8 =>
 pN Tryz.prog (oExt x26 0) w8 fun x27 w9 =>
 pN Tryz.prog (oExt x26 1) w9 fun x28 w10 =>
 pN Tryz.prog (oExt x26 2) w10 fun x29 w11 =>
 pN Tryz.prog (oUn .not x29) w11 fun x31 w12 =>
 pIf x31
 (pN Tryz.prog (oNil x0) w12 fun x33 w13 =>
 pN Tryz.prog (oFld 182 x33 3) w13 fun x34 w14 =>
 pN Tryz.prog (oStore 4 x34 (.bool true)) w14 fun _ w15 =>
 Q (.tuple #[(.slice none 0 0), (.slice none 0 0), (.int .i64 2)]) w15)
 (Q (.tuple #[x27, x28, (.int .i64 0)]) w12)))
theorem pithref15_Decoder_Take.calls [Pan] {x0 x1 x2 : Value} {w : World} {Q : Value → World → Prop} (h : pithref15_Decoder_Take.F x0 x1 x2 w Q) : Calls Tryz.prog 95 #[x0, x1, x2] w (retP Q) := calls_lift mixed .z [x0, x1, x2] Tryz.func95 (by kernel_rfl) (by kernel_rfl) h

def pithref15_Decoder_symbols.H : Hints := { cut := fun  | _ => none, loop := fun | 8 => ([9, 10], 154742504910672530067548096) | _ => ([], 0), order := fun | 15 => [(0, 0), (1, 1), (2, 3), (3, 7), (4, 15), (5, 31), (6, 63), (7, 127)] | _ => [] }
def pithref15_Decoder_symbols.F [Pan] (x0 x1 x2 : Value) (w : World) (Q : Value → World → Prop) : Prop :=
 pN Tryz.prog (oCall 171 [x1]) w fun x20 w1 =>
 pN Tryz.prog (oExt x20 0) w1 fun x21 w2 =>
 pN Tryz.prog (oExt x20 1) w2 fun x22 w3 =>
 pN Tryz.prog (oBin .neq 3 (.tmp 23) (.const (.int .i64 0)) x22 (.int .i64 0)) w3 fun x24 w4 =>
 pIf x24
 (Q (.tuple #[(.slice none 0 0), (.slice none 0 0), (.bool false)]) w4)
 (pN Tryz.prog (oNil x0) w4 fun x27 w5 =>
 pN Tryz.prog (oFld 182 x27 1) w5 fun x28 w6 =>
 pN Tryz.prog (oStore 180 x28 x21) w6 fun _ w7 =>
 pN Tryz.prog (oNil x0) w7 fun x30 w8 =>
 pN Tryz.prog (oFld 182 x30 2) w8 fun x31 w9 =>
 pN Tryz.prog (oStore 4 x31 (.bool false)) w9 fun _ w10 =>
 ∃ (L8 : Value → Value → World → Prop) (m8 : Value → Value → World → Nat),
 L8 (.slice none 0 0) (.slice none 0 0) w10 ∧
 ∀ (_k8 : Env) (l9l8 : Value) (out10l8 : Value) (w11 : World), L8 l9l8 out10l8 w11 →
 pN Tryz.prog (oBi .len #[30] 3 [false] [out10l8]) w11 fun x33 w12 =>
 pN Tryz.prog (oBin .lss 3 (.tmp 33) (.tmp 34) x33 x2) w12 fun x35 w13 =>
 pIf x35
 (pN Tryz.prog (oCall 172 [x0]) w13 fun x37 w14 =>
 pN Tryz.prog (oAlloc 48) w14 fun x13 w15 =>
 pN Tryz.prog (oStore 48 x13 x37) w15 fun _ w16 =>
 pN Tryz.prog (oNil x0) w16 fun x39 w17 =>
 pN Tryz.prog (oFld 182 x39 2) w17 fun x40 w18 =>
 pN Tryz.prog (oLoad 4 x40) w18 fun x41 w19 =>
 pGd (gB x41 false) (pN Tryz.prog (oMv out10l8) w19) w19 fun x43 w20 =>
 pGd (gB x41 false) (pN Tryz.prog (oBi .len #[30] 3 [false] [x43]) w20) w20 fun x44 w21 =>
 pGd (gB x41 false) (pN Tryz.prog (oLoad 48 x13) w21) w21 fun x45 w22 =>
 pGd (gB x41 false) (pN Tryz.prog (oCall 122 [x45]) w22) w22 fun x46 w23 =>
 pGd (gB x41 false) (pN Tryz.prog (oBin .add 3 (.tmp 44) (.tmp 46) x44 x46) w23) w23 fun x47 w24 =>
 pGd (gB x41 false) (pN Tryz.prog (oMv x2) w24) w24 fun x48 w25 =>
 pGd (gB x41 false) (pN Tryz.prog (oBin .gtr 3 (.tmp 47) (.tmp 48) x47 x48) w25) w25 fun x49 w26 =>
 pN Tryz.prog (oPick x41 (.bool true) x49) w26 fun x50 w27 =>
 pIf x50
 (Q (.tuple #[(.slice none 0 0), (.slice none 0 0), (.bool false)]) w27)
 (pDr w27 fun w28 =>
 pA Tryz.prog (oNil x0) fun x53 =>
 pA Tryz.prog (oFld 182 x53 0) fun x54 =>
 pL Tryz.prog (oLoad 41 x54) w28 fun x55 =>
 pA Tryz.prog (oNil x55) fun x56 =>
 pA Tryz.prog (oFld 73 x56 1) fun x57 =>
 pL Tryz.prog (oLoad 66 x57) w28 fun x58 =>
 pA Tryz.prog (oNil x0) fun x60 =>
 pA Tryz.prog (oFld 182 x60 0) fun x61 =>
 pL Tryz.prog (oLoad 41 x61) w28 fun x62 =>
 pA Tryz.prog (oNil x62) fun x63 =>
 pA Tryz.prog (oFld 73 x63 2) fun x64 =>
 pL Tryz.prog (oLoad 69 x64) w28 fun x65 =>
 pL Tryz.prog (oLoad 48 x13) w28 fun x66 =>
 (pN Tryz.prog (oCall 73 [x58, x65, x66]) w28 fun x67 w29 =>
 (True) ∧ (pA Tryz.prog (oExt x67 0) fun x68 =>
 pA Tryz.prog (oExt x67 1) fun x69 =>
 pA Tryz.prog (oExt x67 2) fun x70 =>
 pN Tryz.prog (oAlloc 69) w29 fun x15 w30 =>
 (True) ∧ (pN Tryz.prog (oStore 69 x15 x69) w30 fun _ w31 =>
 (True) ∧ (pN Tryz.prog (oBin .neq 3 (.tmp 71) (.const (.int .i64 0)) x70 (.int .i64 0)) w31 fun x72 w32 =>
 pIf x72
 (Q (.tuple #[(.slice none 0 0), (.slice none 0 0), (.bool false)]) w32)
 (pDr w32 fun w33 =>
 pA Tryz.prog (oNil x0) fun x74 =>
 pA Tryz.prog (oFld 182 x74 0) fun x75 =>
 pL Tryz.prog (oLoad 41 x75) w33 fun x76 =>
 pL Tryz.prog (oLoad 69 x15) w33 fun x77 =>
 pA Tryz.prog (oNil x76) fun x78 =>
 pA Tryz.prog (oFld 73 x78 2) fun x79 =>
 pN Tryz.prog (oStore 69 x79 x77) w33 fun _ w34 =>
 (True) ∧ (pN Tryz.prog (oLoad 48 x13) w34 fun x81 w35 =>
 pN Tryz.prog (oBs 80 1 [(0, x81)]) w35 fun x82 w36 =>
 pN Tryz.prog (oBi .append #[80, 80] 80 [false, false] [l9l8, x82]) w36 fun x83 w37 =>
 pN Tryz.prog (oBi .append #[30, 30] 30 [false, false] [out10l8, x68]) w37 fun x86 w38 =>
 (L8 x83 x86 w38 ∧ m8 x83 x86 w38 < m8 l9l8 out10l8 w11))))))) ∧ (pN Tryz.prog (oAlloc 69) w28 fun x15 w39 =>
 ((Sem.run Tryz.prog (oLoad 48 x13) w39 = .ok (.value x66) w39) ∧ (Sem.run Tryz.prog (oLoad 69 x64) w39 = .ok (.value x65) w39) ∧ (Sem.run Tryz.prog (oLoad 41 x61) w39 = .ok (.value x62) w39) ∧ (Sem.run Tryz.prog (oLoad 66 x57) w39 = .ok (.value x58) w39) ∧ (Sem.run Tryz.prog (oLoad 41 x54) w39 = .ok (.value x55) w39) ∧ True) ∧ (pN Tryz.prog (oCall 73 [x58, x65, x66]) w39 fun x67 w40 =>
 (True) ∧ (pA Tryz.prog (oExt x67 0) fun x68 =>
 pA Tryz.prog (oExt x67 1) fun x69 =>
 pA Tryz.prog (oExt x67 2) fun x70 =>
 pN Tryz.prog (oStore 69 x15 x69) w40 fun _ w41 =>
 (True) ∧ (pN Tryz.prog (oBin .neq 3 (.tmp 71) (.const (.int .i64 0)) x70 (.int .i64 0)) w41 fun x72 w42 =>
 pIf x72
 (Q (.tuple #[(.slice none 0 0), (.slice none 0 0), (.bool false)]) w42)
 (pDr w42 fun w43 =>
 pA Tryz.prog (oNil x0) fun x74 =>
 pA Tryz.prog (oFld 182 x74 0) fun x75 =>
 pL Tryz.prog (oLoad 41 x75) w43 fun x76 =>
 pL Tryz.prog (oLoad 69 x15) w43 fun x77 =>
 pA Tryz.prog (oNil x76) fun x78 =>
 pA Tryz.prog (oFld 73 x78 2) fun x79 =>
 pN Tryz.prog (oStore 69 x79 x77) w43 fun _ w44 =>
 (True) ∧ (pN Tryz.prog (oLoad 48 x13) w44 fun x81 w45 =>
 pN Tryz.prog (oBs 80 1 [(0, x81)]) w45 fun x82 w46 =>
 pN Tryz.prog (oBi .append #[80, 80] 80 [false, false] [l9l8, x82]) w46 fun x83 w47 =>
 pN Tryz.prog (oBi .append #[30, 30] 30 [false, false] [out10l8, x68]) w47 fun x86 w48 =>
 (L8 x83 x86 w48 ∧ m8 x83 x86 w48 < m8 l9l8 out10l8 w11)))))))))
 (pN Tryz.prog (oNil x0) w13 fun x88 w49 =>
 pN Tryz.prog (oFld 182 x88 1) w49 fun x89 w50 =>
 pN Tryz.prog (oLoad 180 x89) w50 fun x90 w51 =>
 pN Tryz.prog (oCall 173 [x90]) w51 fun x91 w52 =>
 Q (.tuple #[l9l8, out10l8, x91]) w52))
theorem pithref15_Decoder_symbols.calls [Pan] {x0 x1 x2 : Value} {w : World} {Q : Value → World → Prop} (h : pithref15_Decoder_symbols.F x0 x1 x2 w Q) : Calls Tryz.prog 140 #[x0, x1, x2] w (retP Q) := calls_lift mixed pithref15_Decoder_symbols.H [x0, x1, x2] Tryz.func140 (by kernel_rfl) (by kernel_rfl) h

def pithref15_Decoder_symbol.H : Hints := { cut := fun | 14 => some ([5], 147573951490164785184) | _ => none, loop := fun  | _ => ([], 0), order := fun | 2 => [(0, 0), (1, 1), (3, 3), (4, 11), (5, 27), (6, 59), (2, 123), (7, 127), (8, 255), (9, 511), (10, 1023)] | 9 => [(0, 0), (1, 1), (3, 3), (4, 11), (5, 27), (6, 59), (2, 123), (7, 127), (8, 255), (9, 511), (10, 1023)] | _ => [] }
def pithref15_Decoder_symbol.F [Pan] (x0 : Value) (w : World) (Q : Value → World → Prop) : Prop :=
 pN Tryz.prog (oAlloc 48) w fun x2 w1 =>
 pN Tryz.prog (oNil x0) w1 fun x7 w2 =>
 pN Tryz.prog (oFld 182 x7 0) w2 fun x8 w3 =>
 pN Tryz.prog (oLoad 41 x8) w3 fun x9 w4 =>
 pN Tryz.prog (oNil x9) w4 fun x10 w5 =>
 pN Tryz.prog (oFld 73 x10 2) w5 fun x11 w6 =>
 pN Tryz.prog (oFld 69 x11 0) w6 fun x12 w7 =>
 pN Tryz.prog (oLoad 3 x12) w7 fun x13 w8 =>
 pDr w8 fun w9 =>
 pA Tryz.prog (oNil x0) fun x18 =>
 pA Tryz.prog (oFld 182 x18 0) fun x19 =>
 pL Tryz.prog (oLoad 41 x19) w9 fun x20 =>
 pN Tryz.prog (oCall 192 [(.string ⟨#[73, 115, 77, 97, 116, 99, 104]⟩), x13]) w9 fun x16 w10 =>
 ((Sem.run Tryz.prog (oLoad 41 x19) w10 = .ok (.value x20) w10) ∧ True) ∧ (pN Tryz.prog (oCall 107 [x20]) w10 fun x21 w11 =>
 (True) ∧ (pN Tryz.prog (oCall 192 [x16, x21]) w11 fun x22 w12 =>
 (True) ∧ (pN Tryz.prog (oCall 191 [x0, x22, (.int .i64 0)]) w12 fun x23 w13 =>
 (True) ∧ (pA Tryz.prog (oBin .eql 3 (.tmp 23) (.const (.int .i64 0)) x23 (.int .i64 0)) fun x24 =>
 pIf x24
 (pN Tryz.prog (oCall 193 [x0]) w13 fun x26 w14 =>
 pN Tryz.prog (oBuild 48 [(0, (.int .i64 1)), (1, x26)]) w14 fun x27 w15 =>
 pN Tryz.prog (oStore 48 x2 x27) w15 fun _ w16 =>
 pL Tryz.prog (oRes 48 x2) w16 fun r2 =>
 Q r2 w16)
 (pN Tryz.prog (oCall 192 [(.string ⟨#[73, 115, 82, 101, 112]⟩), x13]) w13 fun x30 w17 =>
 pN Tryz.prog (oCall 191 [x0, x30, (.int .i64 0)]) w17 fun x31 w18 =>
 pN Tryz.prog (oBin .eql 3 (.tmp 31) (.const (.int .i64 0)) x31 (.int .i64 0)) w18 fun x32 w19 =>
 pIf x32
 (pN Tryz.prog (oCall 194 [x0, (.string ⟨#[77, 97, 116, 99, 104]⟩)]) w19 fun x34 w20 =>
 pN Tryz.prog (oCall 195 [x0, x34]) w20 fun x38 w21 =>
 pN Tryz.prog (oBuild 48 [(0, (.int .i64 2)), (2, x34), (3, x38)]) w21 fun x39 w22 =>
 pN Tryz.prog (oStore 48 x2 x39) w22 fun _ w23 =>
 pL Tryz.prog (oRes 48 x2) w23 fun r2 =>
 Q r2 w23)
 (∃ I14 : Value → World → Prop,
 (pN Tryz.prog (oCall 192 [(.string ⟨#[73, 115, 82, 101, 112, 48]⟩), x13]) w19 fun x42 w24 =>
 pN Tryz.prog (oCall 191 [x0, x42, (.int .i64 0)]) w24 fun x43 w25 =>
 pN Tryz.prog (oBin .eql 3 (.tmp 43) (.const (.int .i64 0)) x43 (.int .i64 0)) w25 fun x44 w26 =>
 pIf x44
 (pDr w26 fun w27 =>
 pA Tryz.prog (oNil x0) fun x49 =>
 pA Tryz.prog (oFld 182 x49 0) fun x50 =>
 pL Tryz.prog (oLoad 41 x50) w27 fun x51 =>
 pN Tryz.prog (oCall 192 [(.string ⟨#[73, 115, 76, 111, 110, 103]⟩), x13]) w27 fun x47 w28 =>
 ((Sem.run Tryz.prog (oLoad 41 x50) w28 = .ok (.value x51) w28) ∧ True) ∧ (pN Tryz.prog (oCall 107 [x51]) w28 fun x52 w29 =>
 (True) ∧ (pN Tryz.prog (oCall 192 [x47, x52]) w29 fun x53 w30 =>
 (True) ∧ (pN Tryz.prog (oCall 191 [x0, x53, (.int .i64 0)]) w30 fun x54 w31 =>
 (True) ∧ (pA Tryz.prog (oBin .eql 3 (.tmp 54) (.const (.int .i64 0)) x54 (.int .i64 0)) fun x55 =>
 pIf x55
 (pN Tryz.prog (oBuild 48 [(0, (.int .i64 4))]) w31 fun x56 w32 =>
 pN Tryz.prog (oStore 48 x2 x56) w32 fun _ w33 =>
 pL Tryz.prog (oRes 48 x2) w33 fun r2 =>
 Q r2 w33)
 (I14 (.int .i64 0) w31))))))
 (pN Tryz.prog (oCall 192 [(.string ⟨#[73, 115, 82, 101, 112, 49]⟩), x13]) w26 fun x59 w34 =>
 pN Tryz.prog (oCall 191 [x0, x59, (.int .i64 0)]) w34 fun x60 w35 =>
 pN Tryz.prog (oBin .eql 3 (.tmp 60) (.const (.int .i64 1)) x60 (.int .i64 1)) w35 fun x61 w36 =>
 pIf x61
 (pN Tryz.prog (oCall 192 [(.string ⟨#[73, 115, 82, 101, 112, 50]⟩), x13]) w36 fun x64 w37 =>
 pN Tryz.prog (oCall 191 [x0, x64, (.int .i64 0)]) w37 fun x65 w38 =>
 pN Tryz.prog (oBin .add 3 (.const (.int .i64 2)) (.tmp 65) (.int .i64 2) x65) w38 fun x66 w39 =>
 I14 x66 w39)
 (I14 (.int .i64 1) w36))) ∧
 ∀ (_j14 : Env) (which5c14 : Value) (w40 : World), I14 which5c14 w40 →
 pN Tryz.prog (oCall 194 [x0, (.string ⟨#[82, 101, 112]⟩)]) w40 fun x68 w41 =>
 pN Tryz.prog (oBuild 48 [(0, (.int .i64 3)), (2, x68), (3, which5c14)]) w41 fun x70 w42 =>
 pN Tryz.prog (oStore 48 x2 x70) w42 fun _ w43 =>
 pL Tryz.prog (oRes 48 x2) w43 fun r2 =>
 Q r2 w43))))))
theorem pithref15_Decoder_symbol.calls [Pan] {x0 : Value} {w : World} {Q : Value → World → Prop} (h : pithref15_Decoder_symbol.F x0 w Q) : Calls Tryz.prog 172 #[x0] w (retP Q) := calls_lift mixed pithref15_Decoder_symbol.H [x0] Tryz.func172 (by kernel_rfl) (by kernel_rfl) h

def pithref15_Decoder_bit.H : Hints := { cut := fun | 6 => some ([], 8321499136) | _ => none, loop := fun  | _ => ([], 0), order := fun | 3 => [(0, 0), (1, 1), (2, 3), (3, 7), (4, 15), (5, 31), (6, 63), (7, 127), (8, 255), (10, 511), (9, 1535), (11, 2047), (12, 4095), (13, 8191), (14, 16383), (15, 32767), (16, 65535)] | _ => [] }
def pithref15_Decoder_bit.F [Pan] (x0 x1 x2 : Value) (w : World) (Q : Value → World → Prop) : Prop :=
 pN Tryz.prog (oNil x0) w fun x10 w1 =>
 pN Tryz.prog (oFld 182 x10 2) w1 fun x11 w2 =>
 pN Tryz.prog (oLoad 4 x11) w2 fun x12 w3 =>
 pIf x12
 (Q (.int .i64 0) w3)
 (pDr w3 fun w4 =>
 pA Tryz.prog (oNil x0) fun x15 =>
 pA Tryz.prog (oFld 182 x15 1) fun x16 =>
 pL Tryz.prog (oLoad 180 x16) w4 fun x17 =>
 pA Tryz.prog (oNil x0) fun x19 =>
 pA Tryz.prog (oFld 182 x19 0) fun x20 =>
 pL Tryz.prog (oLoad 41 x20) w4 fun x21 =>
 pN Tryz.prog (oCall 72 [x21, x1]) w4 fun x23 w5 =>
 ((Sem.run Tryz.prog (oLoad 180 x16) w5 = .ok (.value x17) w5) ∧ True) ∧ (pN Tryz.prog (oCall 204 [x17, x23, x2]) w5 fun x25 w6 =>
 (True) ∧ (pA Tryz.prog (oExt x25 0) fun x26 =>
 pA Tryz.prog (oExt x25 1) fun x27 =>
 ∃ I6 : World → Prop,
 (pN Tryz.prog (oBin .neq 3 (.tmp 28) (.const (.int .i64 0)) x27 (.int .i64 0)) w6 fun x29 w7 =>
 pIf x29
 (pN Tryz.prog (oNil x0) w7 fun x31 w8 =>
 pN Tryz.prog (oFld 182 x31 2) w8 fun x32 w9 =>
 pN Tryz.prog (oStore 4 x32 (.bool true)) w9 fun _ w10 =>
 I6 w10)
 (I6 w7)) ∧
 ∀ (_j6 : Env) (w11 : World), I6 w11 →
 Q x26 w11)))
theorem pithref15_Decoder_bit.calls [Pan] {x0 x1 x2 : Value} {w : World} {Q : Value → World → Prop} (h : pithref15_Decoder_bit.F x0 x1 x2 w Q) : Calls Tryz.prog 191 #[x0, x1, x2] w (retP Q) := calls_lift mixed pithref15_Decoder_bit.H [x0, x1, x2] Tryz.func191 (by kernel_rfl) (by kernel_rfl) h

def pithref15_set.F [Pan] (x0 x1 : Value) (w : World) (Q : Value → World → Prop) : Prop :=
 pN Tryz.prog (oBin .add 9 (.tmp 5) (.const (.string ⟨#[32]⟩)) x0 (.string ⟨#[32]⟩)) w fun x6 w1 =>
 pN Tryz.prog (oCall 150 [x1]) w1 fun x8 w2 =>
 pN Tryz.prog (oBin .add 9 (.tmp 6) (.tmp 8) x6 x8) w2 fun x9 w3 =>
 Q x9 w3
theorem pithref15_set.calls [Pan] {x0 x1 : Value} {w : World} {Q : Value → World → Prop} (h : pithref15_set.F x0 x1 w Q) : Calls Tryz.prog 192 #[x0, x1] w (retP Q) := calls_lift mixed .z [x0, x1] Tryz.func192 (by kernel_rfl) (by kernel_rfl) h

def pithref15_Decoder_literal.H : Hints := { cut := fun | 7 => some ([6, 7], 75557862600014416580288) | 12 => some ([10], 4539628424389460992) | _ => none, loop := fun | 6 => ([6, 7, 8], 75557863655545579245504) | _ => ([], 0), order := fun | 2 => [(0, 0), (1, 1), (2, 3), (3, 7), (4, 15), (5, 31), (6, 63), (7, 127), (8, 255), (9, 511), (10, 1023), (11, 2047), (12, 4095), (13, 8191), (14, 16383), (15, 32767), (16, 65535), (17, 131071), (18, 262143), (19, 524287), (20, 1048575), (21, 2097151)] | _ => [] }
def pithref15_Decoder_literal.F [Pan] (x0 : Value) (w : World) (Q : Value → World → Prop) : Prop :=
 pN Tryz.prog (oNil x0) w fun x13 w1 =>
 pN Tryz.prog (oFld 182 x13 0) w1 fun x14 w2 =>
 pN Tryz.prog (oLoad 41 x14) w2 fun x15 w3 =>
 pN Tryz.prog (oCall 151 [x15]) w3 fun x16 w4 =>
 pDr w4 fun w5 =>
 pA Tryz.prog (oNil x0) fun x19 =>
 pA Tryz.prog (oFld 182 x19 0) fun x20 =>
 pL Tryz.prog (oLoad 41 x20) w5 fun x21 =>
 pA Tryz.prog (oNil x21) fun x22 =>
 pA Tryz.prog (oFld 73 x22 1) fun x23 =>
 pL Tryz.prog (oLoad 66 x23) w5 fun x24 =>
 pA Tryz.prog (oNil x0) fun x26 =>
 pA Tryz.prog (oFld 182 x26 0) fun x27 =>
 pL Tryz.prog (oLoad 41 x27) w5 fun x28 =>
 pA Tryz.prog (oNil x28) fun x29 =>
 pA Tryz.prog (oFld 73 x29 2) fun x30 =>
 pA Tryz.prog (oFld 69 x30 1) fun x31 =>
 pA Tryz.prog (oIdx 67 x31 (.int .i64 0)) fun x32 =>
 pL Tryz.prog (oLoad 3 x32) w5 fun x33 =>
 pN Tryz.prog (oCall 153 [x24, x33]) w5 fun x34 w6 =>
 (True) ∧ (pA Tryz.prog (oExt x34 0) fun x35 =>
 pA Tryz.prog (oExt x34 1) fun _ =>
 pN Tryz.prog (oNil x0) w6 fun x38 w7 =>
 pN Tryz.prog (oFld 182 x38 0) w7 fun x39 w8 =>
 pN Tryz.prog (oLoad 41 x39) w8 fun x40 w9 =>
 pN Tryz.prog (oNil x40) w9 fun x41 w10 =>
 pN Tryz.prog (oFld 73 x41 2) w10 fun x42 w11 =>
 pN Tryz.prog (oFld 69 x42 0) w11 fun x43 w12 =>
 pN Tryz.prog (oLoad 3 x43) w12 fun x44 w13 =>
 pN Tryz.prog (oBin .geq 3 (.tmp 44) (.const (.int .i64 7)) x44 (.int .i64 7)) w13 fun x45 w14 =>
 ∃ (L6 : Value → Value → Value → World → Prop) (m6 : Value → Value → Value → World → Nat),
 L6 x45 (.int .i64 1) (.int .i64 7) w14 ∧
 ∀ (_k6 : Env) (alike6l6 : Value) (m7l6 : Value) (i8l6 : Value) (w15 : World), L6 alike6l6 m7l6 i8l6 w15 →
 pN Tryz.prog (oBin .geq 3 (.tmp 46) (.const (.int .i64 0)) i8l6 (.int .i64 0)) w15 fun x47 w16 =>
 pIf x47
 (∃ I7 : Value → Value → World → Prop,
 (pN Tryz.prog (oConv 5 3 x35) w16 fun x51 w17 =>
 pN Tryz.prog (oBin .shr 3 (.tmp 51) (.tmp 52) x51 i8l6) w17 fun x53 w18 =>
 pN Tryz.prog (oBin .rem 3 (.tmp 53) (.const (.int .i64 2)) x53 (.int .i64 2)) w18 fun x54 w19 =>
 ∃ I12 : Value → World → Prop,
 (pIf alike6l6
 (pN Tryz.prog (oBin .add 3 (.const (.int .i64 1)) (.tmp 57) (.int .i64 1) x54) w19 fun x58 w20 =>
 pN Tryz.prog (oBin .mul 3 (.const (.int .i64 256)) (.tmp 58) (.int .i64 256) x58) w20 fun x59 w21 =>
 pN Tryz.prog (oBin .add 3 (.tmp 59) (.tmp 60) x59 m7l6) w21 fun x61 w22 =>
 I12 x61 w22)
 (I12 m7l6 w19)) ∧
 ∀ (_j12 : Env) (at10c12 : Value) (w23 : World), I12 at10c12 w23 →
 pN Tryz.prog (oCall 191 [x0, x16, at10c12]) w23 fun x65 w24 =>
 pGd (gB alike6l6 true) (pN Tryz.prog (oMv x65) w24) w24 fun x68 w25 =>
 pGd (gB alike6l6 true) (pN Tryz.prog (oMv x54) w25) w25 fun x69 w26 =>
 pGd (gB alike6l6 true) (pN Tryz.prog (oBin .eql 3 (.tmp 68) (.tmp 69) x68 x69) w26) w26 fun x70 w27 =>
 pN Tryz.prog (oPick alike6l6 x70 (.bool false)) w27 fun x71 w28 =>
 pN Tryz.prog (oBin .mul 3 (.const (.int .i64 2)) (.tmp 72) (.int .i64 2) m7l6) w28 fun x73 w29 =>
 pN Tryz.prog (oBin .add 3 (.tmp 73) (.tmp 74) x73 x65) w29 fun x75 w30 =>
 I7 x71 x75 w30) ∧
 ∀ (_j7 : Env) (alike6c7 : Value) (m7c7 : Value) (w31 : World), I7 alike6c7 m7c7 w31 →
 pN Tryz.prog (oBin .sub 3 (.tmp 48) (.const (.int .i64 1)) i8l6 (.int .i64 1)) w31 fun x49 w32 =>
 (L6 alike6c7 m7c7 x49 w32 ∧ m6 alike6c7 m7c7 x49 w32 < m6 alike6l6 m7l6 i8l6 w15))
 (pN Tryz.prog (oBin .sub 3 (.tmp 76) (.const (.int .i64 256)) m7l6 (.int .i64 256)) w16 fun x77 w33 =>
 pN Tryz.prog (oConv 3 5 x77) w33 fun x78 w34 =>
 Q x78 w34))
theorem pithref15_Decoder_literal.calls [Pan] {x0 : Value} {w : World} {Q : Value → World → Prop} (h : pithref15_Decoder_literal.F x0 w Q) : Calls Tryz.prog 193 #[x0] w (retP Q) := calls_lift mixed pithref15_Decoder_literal.H [x0] Tryz.func193 (by kernel_rfl) (by kernel_rfl) h

def pithref15_Decoder_length.F [Pan] (x0 x1 : Value) (w : World) (Q : Value → World → Prop) : Prop :=
 pN Tryz.prog (oBin .add 9 (.tmp 6) (.const (.string ⟨#[32, 67, 104, 111, 105, 99, 101]⟩)) x1 (.string ⟨#[32, 67, 104, 111, 105, 99, 101]⟩)) w fun x7 w1 =>
 pN Tryz.prog (oCall 191 [x0, x7, (.int .i64 0)]) w1 fun x8 w2 =>
 pN Tryz.prog (oBin .eql 3 (.tmp 8) (.const (.int .i64 0)) x8 (.int .i64 0)) w2 fun x9 w3 =>
 pIf x9
 (pN Tryz.prog (oBin .add 9 (.tmp 11) (.const (.string ⟨#[32, 76, 111, 119]⟩)) x1 (.string ⟨#[32, 76, 111, 119]⟩)) w3 fun x12 w4 =>
 pN Tryz.prog (oNil x0) w4 fun x14 w5 =>
 pN Tryz.prog (oFld 182 x14 0) w5 fun x15 w6 =>
 pN Tryz.prog (oLoad 41 x15) w6 fun x16 w7 =>
 pN Tryz.prog (oCall 107 [x16]) w7 fun x17 w8 =>
 pN Tryz.prog (oCall 192 [x12, x17]) w8 fun x18 w9 =>
 pN Tryz.prog (oCall 205 [x0, x18, (.int .i64 3)]) w9 fun x19 w10 =>
 pN Tryz.prog (oBin .add 3 (.const (.int .i64 2)) (.tmp 19) (.int .i64 2) x19) w10 fun x20 w11 =>
 Q x20 w11)
 (pN Tryz.prog (oBin .add 9 (.tmp 22) (.const (.string ⟨#[32, 67, 104, 111, 105, 99, 101, 50]⟩)) x1 (.string ⟨#[32, 67, 104, 111, 105, 99, 101, 50]⟩)) w3 fun x23 w12 =>
 pN Tryz.prog (oCall 191 [x0, x23, (.int .i64 0)]) w12 fun x24 w13 =>
 pN Tryz.prog (oBin .eql 3 (.tmp 24) (.const (.int .i64 0)) x24 (.int .i64 0)) w13 fun x25 w14 =>
 pIf x25
 (pN Tryz.prog (oBin .add 9 (.tmp 27) (.const (.string ⟨#[32, 77, 105, 100]⟩)) x1 (.string ⟨#[32, 77, 105, 100]⟩)) w14 fun x28 w15 =>
 pN Tryz.prog (oNil x0) w15 fun x30 w16 =>
 pN Tryz.prog (oFld 182 x30 0) w16 fun x31 w17 =>
 pN Tryz.prog (oLoad 41 x31) w17 fun x32 w18 =>
 pN Tryz.prog (oCall 107 [x32]) w18 fun x33 w19 =>
 pN Tryz.prog (oCall 192 [x28, x33]) w19 fun x34 w20 =>
 pN Tryz.prog (oCall 205 [x0, x34, (.int .i64 3)]) w20 fun x35 w21 =>
 pN Tryz.prog (oBin .add 3 (.const (.int .i64 10)) (.tmp 35) (.int .i64 10) x35) w21 fun x36 w22 =>
 Q x36 w22)
 (pN Tryz.prog (oBin .add 9 (.tmp 38) (.const (.string ⟨#[32, 72, 105, 103, 104]⟩)) x1 (.string ⟨#[32, 72, 105, 103, 104]⟩)) w14 fun x39 w23 =>
 pN Tryz.prog (oCall 205 [x0, x39, (.int .i64 8)]) w23 fun x40 w24 =>
 pN Tryz.prog (oBin .add 3 (.const (.int .i64 18)) (.tmp 40) (.int .i64 18) x40) w24 fun x41 w25 =>
 Q x41 w25))
theorem pithref15_Decoder_length.calls [Pan] {x0 x1 : Value} {w : World} {Q : Value → World → Prop} (h : pithref15_Decoder_length.F x0 x1 w Q) : Calls Tryz.prog 194 #[x0, x1] w (retP Q) := calls_lift mixed .z [x0, x1] Tryz.func194 (by kernel_rfl) (by kernel_rfl) h

def pithref15_Decoder_distance.H : Hints := { cut := fun | 4 => some ([5], 49184) | _ => none, loop := fun  | _ => ([], 0), order := fun  | _ => [] }
def pithref15_Decoder_distance.F [Pan] (x0 x1 : Value) (w : World) (Q : Value → World → Prop) : Prop :=
 pN Tryz.prog (oBin .sub 3 (.tmp 12) (.const (.int .i64 2)) x1 (.int .i64 2)) w fun x13 w1 =>
 ∃ I4 : Value → World → Prop,
 (pN Tryz.prog (oBin .gtr 3 (.tmp 14) (.const (.int .i64 3)) x13 (.int .i64 3)) w1 fun x15 w2 =>
 pIf x15
 (I4 (.int .i64 3) w2)
 (I4 x13 w2)) ∧
 ∀ (_j4 : Env) (k5c4 : Value) (w3 : World), I4 k5c4 w3 →
 pN Tryz.prog (oCall 192 [(.string ⟨#[83, 108, 111, 116]⟩), k5c4]) w3 fun x18 w4 =>
 pN Tryz.prog (oCall 205 [x0, x18, (.int .i64 6)]) w4 fun x19 w5 =>
 pN Tryz.prog (oCall 155 [x19]) w5 fun x22 w6 =>
 pN Tryz.prog (oExt x22 0) w6 fun x23 w7 =>
 pN Tryz.prog (oExt x22 1) w7 fun x24 w8 =>
 pN Tryz.prog (oExt x22 2) w8 fun _ w9 =>
 pN Tryz.prog (oBin .lss 3 (.tmp 27) (.const (.int .i64 4)) x19 (.int .i64 4)) w9 fun x28 w10 =>
 pIf x28
 (Q x23 w10)
 (pN Tryz.prog (oBin .lss 3 (.tmp 31) (.const (.int .i64 14)) x19 (.int .i64 14)) w10 fun x32 w11 =>
 pIf x32
 (pN Tryz.prog (oCall 192 [(.string ⟨#[82, 101, 115, 116]⟩), x19]) w11 fun x36 w12 =>
 pN Tryz.prog (oCall 206 [x0, x36, x24]) w12 fun x38 w13 =>
 pN Tryz.prog (oBin .add 3 (.tmp 33) (.tmp 38) x23 x38) w13 fun x39 w14 =>
 Q x39 w14)
 (pN Tryz.prog (oNil x0) w11 fun x41 w15 =>
 pN Tryz.prog (oFld 182 x41 2) w15 fun x42 w16 =>
 pN Tryz.prog (oLoad 4 x42) w16 fun x43 w17 =>
 pIf x43
 (Q (.int .i64 0) w17)
 (pN Tryz.prog (oNil x0) w17 fun x46 w18 =>
 pN Tryz.prog (oFld 182 x46 1) w18 fun x47 w19 =>
 pN Tryz.prog (oLoad 180 x47) w19 fun x48 w20 =>
 pN Tryz.prog (oBin .sub 3 (.tmp 49) (.const (.int .i64 4)) x24 (.int .i64 4)) w20 fun x50 w21 =>
 pN Tryz.prog (oCall 207 [x48, x50]) w21 fun x51 w22 =>
 pN Tryz.prog (oExt x51 0) w22 fun x52 w23 =>
 pN Tryz.prog (oExt x51 1) w23 fun x53 w24 =>
 pN Tryz.prog (oBin .neq 3 (.tmp 54) (.const (.int .i64 0)) x53 (.int .i64 0)) w24 fun x55 w25 =>
 pIf x55
 (pN Tryz.prog (oNil x0) w25 fun x57 w26 =>
 pN Tryz.prog (oFld 182 x57 2) w26 fun x58 w27 =>
 pN Tryz.prog (oStore 4 x58 (.bool true)) w27 fun _ w28 =>
 Q (.int .i64 0) w28)
 (pN Tryz.prog (oConv 148 3 x52) w25 fun x61 w29 =>
 pN Tryz.prog (oBin .mul 3 (.const (.int .i64 16)) (.tmp 61) (.int .i64 16) x61) w29 fun x62 w30 =>
 pN Tryz.prog (oBin .add 3 (.tmp 59) (.tmp 62) x23 x62) w30 fun x63 w31 =>
 pN Tryz.prog (oCall 206 [x0, (.string ⟨#[65, 108, 105, 103, 110]⟩), (.int .i64 4)]) w31 fun x65 w32 =>
 pN Tryz.prog (oBin .add 3 (.tmp 63) (.tmp 65) x63 x65) w32 fun x66 w33 =>
 Q x66 w33))))
theorem pithref15_Decoder_distance.calls [Pan] {x0 x1 : Value} {w : World} {Q : Value → World → Prop} (h : pithref15_Decoder_distance.F x0 x1 w Q) : Calls Tryz.prog 195 #[x0, x1] w (retP Q) := calls_lift mixed pithref15_Decoder_distance.H [x0, x1] Tryz.func195 (by kernel_rfl) (by kernel_rfl) h

def pithref15_Decoder_tree.H : Hints := { cut := fun  | _ => none, loop := fun | 3 => ([7, 8], 2097024) | _ => ([], 0), order := fun  | _ => [] }
def pithref15_Decoder_tree.F [Pan] (x0 x1 x2 : Value) (w : World) (Q : Value → World → Prop) : Prop :=
 ∃ (L3 : Value → Value → World → Prop) (m3 : Value → Value → World → Nat),
 L3 (.int .i64 1) (.int .i64 0) w ∧
 ∀ (_k3 : Env) (m7l3 : Value) (i8l3 : Value) (w1 : World), L3 m7l3 i8l3 w1 →
 pN Tryz.prog (oBin .lss 3 (.tmp 9) (.tmp 10) i8l3 x2) w1 fun x11 w2 =>
 pIf x11
 (pN Tryz.prog (oBin .mul 3 (.const (.int .i64 2)) (.tmp 14) (.int .i64 2) m7l3) w2 fun x15 w3 =>
 pN Tryz.prog (oCall 191 [x0, x1, m7l3]) w3 fun x19 w4 =>
 pN Tryz.prog (oBin .add 3 (.tmp 15) (.tmp 19) x15 x19) w4 fun x20 w5 =>
 pN Tryz.prog (oBin .add 3 (.tmp 12) (.const (.int .i64 1)) i8l3 (.int .i64 1)) w5 fun x13 w6 =>
 (L3 x20 x13 w6 ∧ m3 x20 x13 w6 < m3 m7l3 i8l3 w1))
 (pN Tryz.prog (oBin .shl 3 (.const (.int .i64 1)) (.tmp 22) (.int .i64 1) x2) w2 fun x23 w7 =>
 pN Tryz.prog (oBin .sub 3 (.tmp 21) (.tmp 23) m7l3 x23) w7 fun x24 w8 =>
 Q x24 w8)
theorem pithref15_Decoder_tree.calls [Pan] {x0 x1 x2 : Value} {w : World} {Q : Value → World → Prop} (h : pithref15_Decoder_tree.F x0 x1 x2 w Q) : Calls Tryz.prog 205 #[x0, x1, x2] w (retP Q) := calls_lift mixed pithref15_Decoder_tree.H [x0, x1, x2] Tryz.func205 (by kernel_rfl) (by kernel_rfl) h

def pithref15_Decoder_back.H : Hints := { cut := fun  | _ => none, loop := fun | 4 => ([7, 8, 9], 536870784) | _ => ([], 0), order := fun  | _ => [] }
def pithref15_Decoder_back.F [Pan] (x0 x1 x2 : Value) (w : World) (Q : Value → World → Prop) : Prop :=
 ∃ (L4 : Value → Value → Value → World → Prop) (m4 : Value → Value → Value → World → Nat),
 L4 (.int .i64 1) (.int .i64 0) (.int .i64 0) w ∧
 ∀ (_k4 : Env) (m7l4 : Value) (v8l4 : Value) (i9l4 : Value) (w1 : World), L4 m7l4 v8l4 i9l4 w1 →
 pN Tryz.prog (oBin .lss 3 (.tmp 11) (.tmp 12) i9l4 x2) w1 fun x13 w2 =>
 pIf x13
 (pN Tryz.prog (oCall 191 [x0, x1, m7l4]) w2 fun x19 w3 =>
 pN Tryz.prog (oBin .mul 3 (.const (.int .i64 2)) (.tmp 20) (.int .i64 2) m7l4) w3 fun x21 w4 =>
 pN Tryz.prog (oBin .add 3 (.tmp 21) (.tmp 22) x21 x19) w4 fun x23 w5 =>
 pN Tryz.prog (oBin .shl 3 (.tmp 25) (.tmp 26) x19 i9l4) w5 fun x27 w6 =>
 pN Tryz.prog (oBin .add 3 (.tmp 24) (.tmp 27) v8l4 x27) w6 fun x28 w7 =>
 pN Tryz.prog (oBin .add 3 (.tmp 14) (.const (.int .i64 1)) i9l4 (.int .i64 1)) w7 fun x15 w8 =>
 (L4 x23 x28 x15 w8 ∧ m4 x23 x28 x15 w8 < m4 m7l4 v8l4 i9l4 w1))
 (Q v8l4 w2)
theorem pithref15_Decoder_back.calls [Pan] {x0 x1 x2 : Value} {w : World} {Q : Value → World → Prop} (h : pithref15_Decoder_back.F x0 x1 x2 w Q) : Calls Tryz.prog 206 #[x0, x1, x2] w (retP Q) := calls_lift mixed pithref15_Decoder_back.H [x0, x1, x2] Tryz.func206 (by kernel_rfl) (by kernel_rfl) h

end Go.Proofs.YtbgnnjfpiblkmaaGreatDoor

namespace Go.Proofs.YtbgnnjfpiblkmaaGreatDoor
open Go
set_option maxRecDepth 100000

def pithref14_New.H : Hints := { cut := fun  | _ => none, loop := fun  | _ => ([], 0), order := fun | 7 => [(0, 0), (1, 1), (2, 3), (3, 7), (4, 15), (5, 31), (6, 63)] | _ => [] }
def pithref14_New.F [Pan] (x0 x1 : Value) (w : World) (Q : Value → World → Prop) : Prop :=
 pN Tryz.prog (oBox 23 x0) w fun x2 w1 =>
 pN Tryz.prog (oLoad 23 x2) w1 fun x11 w2 =>
 pN Tryz.prog (oCall 63 [x11]) w2 fun x12 w3 =>
 pN Tryz.prog (oExt x12 0) w3 fun _ w4 =>
 pN Tryz.prog (oExt x12 1) w4 fun x14 w5 =>
 pN Tryz.prog (oBin .neq 3 (.tmp 15) (.const (.int .i64 0)) x14 (.int .i64 0)) w5 fun x16 w6 =>
 pIf x16
 (Q (.tuple #[(.pointer none), x14]) w6)
 (pN Tryz.prog (oCall 64 [x1]) w6 fun x20 w7 =>
 pN Tryz.prog (oExt x20 0) w7 fun x21 w8 =>
 pN Tryz.prog (oExt x20 1) w8 fun x22 w9 =>
 pN Tryz.prog (oBin .neq 3 (.tmp 23) (.const (.int .i64 0)) x22 (.int .i64 0)) w9 fun x24 w10 =>
 pIf x24
 (Q (.tuple #[(.pointer none), x22]) w10)
 (pDr w10 fun w11 =>
 pL Tryz.prog (oLoad 23 x2) w11 fun x26 =>
 pN Tryz.prog (oCall 65 []) w11 fun x28 w12 =>
 ((Sem.run Tryz.prog (oLoad 23 x2) w12 = .ok (.value x26) w12) ∧ True) ∧ (pN Tryz.prog (oCall 66 []) w12 fun x29 w13 =>
 ((Sem.run Tryz.prog (oLoad 23 x2) w13 = .ok (.value x26) w13) ∧ True) ∧ (pN Tryz.prog (oBuild 73 [(0, x26), (1, x21), (2, x28), (4, x29)]) w13 fun x30 w14 =>
 (True) ∧ (pN Tryz.prog (oBox 73 x30) w14 fun x31 w15 =>
 (True) ∧ (pN Tryz.prog (oMap 70 none) w15 fun x33 w16 =>
 pN Tryz.prog (oNil x31) w16 fun x34 w17 =>
 pN Tryz.prog (oFld 73 x34 3) w17 fun x35 w18 =>
 pN Tryz.prog (oStore 70 x35 x33) w18 fun _ w19 =>
 Q (.tuple #[x31, (.int .i64 0)]) w19))))))
theorem pithref14_New.calls [Pan] {x0 x1 : Value} {w : World} {Q : Value → World → Prop} (h : pithref14_New.F x0 x1 w Q) : Calls Tryz.prog 14 #[x0, x1] w (retP Q) := calls_lift mixed pithref14_New.H [x0, x1] Tryz.func14 (by kernel_rfl) (by kernel_rfl) h

def pithref14_Coder_Reset.F [Pan] (x0 x1 : Value) (w : World) (Q : Value → World → Prop) : Prop :=
 pN Tryz.prog (oBox 23 x1) w fun x3 w1 =>
 pN Tryz.prog (oLoad 23 x3) w1 fun x8 w2 =>
 pN Tryz.prog (oCall 63 [x8]) w2 fun x9 w3 =>
 pN Tryz.prog (oExt x9 0) w3 fun _ w4 =>
 pN Tryz.prog (oExt x9 1) w4 fun x11 w5 =>
 pN Tryz.prog (oBin .neq 3 (.tmp 12) (.const (.int .i64 0)) x11 (.int .i64 0)) w5 fun x13 w6 =>
 pIf x13
 (Q x11 w6)
 (pN Tryz.prog (oLoad 23 x3) w6 fun x16 w7 =>
 pN Tryz.prog (oNil x0) w7 fun x17 w8 =>
 pN Tryz.prog (oFld 73 x17 0) w8 fun x18 w9 =>
 pN Tryz.prog (oStore 23 x18 x16) w9 fun _ w10 =>
 pN Tryz.prog (oMap 70 none) w10 fun x20 w11 =>
 pN Tryz.prog (oNil x0) w11 fun x21 w12 =>
 pN Tryz.prog (oFld 73 x21 3) w12 fun x22 w13 =>
 pN Tryz.prog (oStore 70 x22 x20) w13 fun _ w14 =>
 pN Tryz.prog (oCall 65 []) w14 fun x24 w15 =>
 pN Tryz.prog (oNil x0) w15 fun x25 w16 =>
 pN Tryz.prog (oFld 73 x25 2) w16 fun x26 w17 =>
 pN Tryz.prog (oStore 69 x26 x24) w17 fun _ w18 =>
 Q (.int .i64 0) w18)
theorem pithref14_Coder_Reset.calls [Pan] {x0 x1 : Value} {w : World} {Q : Value → World → Prop} (h : pithref14_Coder_Reset.F x0 x1 w Q) : Calls Tryz.prog 27 #[x0, x1] w (retP Q) := calls_lift mixed .z [x0, x1] Tryz.func27 (by kernel_rfl) (by kernel_rfl) h

def pithref14_Coder_Clear.F [Pan] (x0 : Value) (w : World) (Q : Value → World → Prop) : Prop :=
 pN Tryz.prog (oNil x0) w fun x4 w1 =>
 pN Tryz.prog (oFld 73 x4 0) w1 fun x5 w2 =>
 pN Tryz.prog (oLoad 23 x5) w2 fun x6 w3 =>
 pN Tryz.prog (oCall 27 [x0, x6]) w3 fun _ w4 =>
 pN Tryz.prog (oNil x0) w4 fun x9 w5 =>
 pN Tryz.prog (oFld 73 x9 1) w5 fun x10 w6 =>
 pN Tryz.prog (oLoad 66 x10) w6 fun x11 w7 =>
 pN Tryz.prog (oCall 79 [x11]) w7 fun _ w8 =>
 Q (.tuple #[]) w8
theorem pithref14_Coder_Clear.calls [Pan] {x0 : Value} {w : World} {Q : Value → World → Prop} (h : pithref14_Coder_Clear.F x0 w Q) : Calls Tryz.prog 29 #[x0] w (retP Q) := calls_lift mixed .z [x0] Tryz.func29 (by kernel_rfl) (by kernel_rfl) h

def pithref14_Coder_Set.H : Hints := { cut := fun | 5 => some ([5], 268369952) | _ => none, loop := fun  | _ => ([], 0), order := fun  | _ => [] }
def pithref14_Coder_Set.F [Pan] (x0 x1 : Value) (w : World) (Q : Value → World → Prop) : Prop :=
 pN Tryz.prog (oNil x0) w fun x9 w1 =>
 pN Tryz.prog (oFld 73 x9 3) w1 fun x10 w2 =>
 pN Tryz.prog (oLoad 70 x10) w2 fun x11 w3 =>
 pN Tryz.prog (oLook 70 x11 x1 true) w3 fun x13 w4 =>
 pN Tryz.prog (oExt x13 0) w4 fun x14 w5 =>
 pN Tryz.prog (oExt x13 1) w5 fun x15 w6 =>
 ∃ I5 : Value → World → Prop,
 (pN Tryz.prog (oUn .not x15) w6 fun x17 w7 =>
 pIf x17
 (pN Tryz.prog (oCall 118 [(.int .i64 768)]) w7 fun x19 w8 =>
 pN Tryz.prog (oExt x19 0) w8 fun x20 w9 =>
 pN Tryz.prog (oExt x19 1) w9 fun _ w10 =>
 pN Tryz.prog (oNil x0) w10 fun x23 w11 =>
 pN Tryz.prog (oFld 73 x23 3) w11 fun x24 w12 =>
 pN Tryz.prog (oLoad 70 x24) w12 fun x25 w13 =>
 pN Tryz.prog (oMapUp 70 x25 x1 x20) w13 fun _ w14 =>
 I5 x20 w14)
 (I5 x14 w7)) ∧
 ∀ (_j5 : Env) (s5c5 : Value) (w15 : World), I5 s5c5 w15 →
 Q s5c5 w15
theorem pithref14_Coder_Set.calls [Pan] {x0 x1 : Value} {w : World} {Q : Value → World → Prop} (h : pithref14_Coder_Set.F x0 x1 w Q) : Calls Tryz.prog 72 #[x0, x1] w (retP Q) := calls_lift mixed pithref14_Coder_Set.H [x0, x1] Tryz.func72 (by kernel_rfl) (by kernel_rfl) h

def pithref14_Coder_Place.H : Hints := { cut := fun  | _ => none, loop := fun  | _ => ([], 0), order := fun | 1 => [(0, 0), (1, 1), (2, 3), (3, 7), (4, 15), (5, 31), (6, 63), (7, 127), (8, 255), (9, 511), (10, 1023), (11, 2047), (12, 4095), (13, 8191), (14, 16383), (15, 32767)] | _ => [] }
def pithref14_Coder_Place.F [Pan] (x0 : Value) (w : World) (Q : Value → World → Prop) : Prop :=
 pDr w fun w1 =>
 pA Tryz.prog (oNil x0) fun x4 =>
 pA Tryz.prog (oFld 73 x4 1) fun x5 =>
 pL Tryz.prog (oLoad 66 x5) w1 fun x6 =>
 pA Tryz.prog (oNil x6) fun x7 =>
 pA Tryz.prog (oFld 193 x7 1) fun x8 =>
 pL Tryz.prog (oLoad 30 x8) w1 fun x9 =>
 pA Tryz.prog (oBi .len #[30] 3 [false] [x9]) fun x10 =>
 pA Tryz.prog (oNil x0) fun x12 =>
 pA Tryz.prog (oFld 73 x12 0) fun x13 =>
 pA Tryz.prog (oFld 23 x13 2) fun x14 =>
 pL Tryz.prog (oLoad 3 x14) w1 fun x15 =>
 pN Tryz.prog (oCall 149 [x15]) w1 fun x16 w2 =>
 ((Sem.run Tryz.prog (oLoad 30 x8) w2 = .ok (.value x9) w2) ∧ (Sem.run Tryz.prog (oLoad 66 x5) w2 = .ok (.value x6) w2) ∧ True) ∧ (pA Tryz.prog (oBin .rem 3 (.tmp 10) (.tmp 16) x10 x16) fun x17 =>
 Q x17 w2)
theorem pithref14_Coder_Place.calls [Pan] {x0 : Value} {w : World} {Q : Value → World → Prop} (h : pithref14_Coder_Place.F x0 w Q) : Calls Tryz.prog 107 #[x0] w (retP Q) := calls_lift mixed pithref14_Coder_Place.H [x0] Tryz.func107 (by kernel_rfl) (by kernel_rfl) h

def pithref14_name.H : Hints := { cut := fun  | _ => none, loop := fun | 2 => ([0, 5], 1048545) | _ => ([], 0), order := fun  | _ => [] }
def pithref14_name.F [Pan] (x0 x1 : Value) (w : World) (Q : Value → World → Prop) : Prop :=
 ∃ (L2 : Value → Value → World → Prop) (m2 : Value → Value → World → Nat),
 L2 x0 (.int .i64 0) w ∧
 ∀ (_k2 : Env) (s0l2 : Value) (i5l2 : Value) (w1 : World), L2 s0l2 i5l2 w1 →
 pN Tryz.prog (oBi .len #[217] 3 [false] [x1]) w1 fun x8 w2 =>
 pN Tryz.prog (oBin .lss 3 (.tmp 6) (.tmp 8) i5l2 x8) w2 fun x9 w3 =>
 pIf x9
 (pN Tryz.prog (oBin .add 9 (.tmp 12) (.const (.string ⟨#[32]⟩)) s0l2 (.string ⟨#[32]⟩)) w3 fun x13 w4 =>
 pN Tryz.prog (oIdx 217 x1 i5l2) w4 fun x16 w5 =>
 pN Tryz.prog (oLoad 3 x16) w5 fun x17 w6 =>
 pN Tryz.prog (oCall 150 [x17]) w6 fun x18 w7 =>
 pN Tryz.prog (oBin .add 9 (.tmp 13) (.tmp 18) x13 x18) w7 fun x19 w8 =>
 pN Tryz.prog (oBin .add 3 (.tmp 10) (.const (.int .i64 1)) i5l2 (.int .i64 1)) w8 fun x11 w9 =>
 (L2 x19 x11 w9 ∧ m2 x19 x11 w9 < m2 s0l2 i5l2 w1))
 (Q s0l2 w3)
theorem pithref14_name.calls [Pan] {x0 x1 : Value} {w : World} {Q : Value → World → Prop} (h : pithref14_name.F x0 x1 w Q) : Calls Tryz.prog 108 #[x0, x1] w (retP Q) := calls_lift mixed pithref14_name.H [x0, x1] Tryz.func108 (by kernel_rfl) (by kernel_rfl) h

def pithref14_two.H : Hints := { cut := fun  | _ => none, loop := fun | 3 => ([3, 4], 4088) | _ => ([], 0), order := fun  | _ => [] }
def pithref14_two.F [Pan] (x0 : Value) (w : World) (Q : Value → World → Prop) : Prop :=
 ∃ (L3 : Value → Value → World → Prop) (m3 : Value → Value → World → Nat),
 L3 (.int .i64 1) (.int .i64 0) w ∧
 ∀ (_k3 : Env) (v3l3 : Value) (i4l3 : Value) (w1 : World), L3 v3l3 i4l3 w1 →
 pN Tryz.prog (oBin .lss 3 (.tmp 5) (.tmp 6) i4l3 x0) w1 fun x7 w2 =>
 pIf x7
 (pN Tryz.prog (oBin .mul 3 (.const (.int .i64 2)) (.tmp 10) (.int .i64 2) v3l3) w2 fun x11 w3 =>
 pN Tryz.prog (oBin .add 3 (.tmp 8) (.const (.int .i64 1)) i4l3 (.int .i64 1)) w3 fun x9 w4 =>
 (L3 x11 x9 w4 ∧ m3 x11 x9 w4 < m3 v3l3 i4l3 w1))
 (Q v3l3 w2)
theorem pithref14_two.calls [Pan] {x0 : Value} {w : World} {Q : Value → World → Prop} (h : pithref14_two.F x0 w Q) : Calls Tryz.prog 149 #[x0] w (retP Q) := calls_lift mixed pithref14_two.H [x0] Tryz.func149 (by kernel_rfl) (by kernel_rfl) h

def pithref14_Coder_Literal.H : Hints := { cut := fun | 4 => some ([3], 8589934568) | _ => none, loop := fun  | _ => ([], 0), order := fun | 3 => [(0, 0), (1, 1), (2, 3), (3, 7), (4, 15), (5, 31), (6, 63), (7, 127), (8, 255), (9, 511), (10, 1023), (11, 2047), (12, 4095), (13, 8191), (14, 16383), (15, 32767), (16, 65535), (17, 131071), (18, 262143), (19, 524287)] | 4 => [(0, 0), (1, 1), (2, 3), (3, 7), (4, 15), (5, 31), (6, 63), (7, 127), (8, 255), (9, 511), (10, 1023), (11, 2047), (12, 4095), (15, 8191), (16, 40959), (17, 106495), (18, 237567), (19, 499711), (22, 1023999), (23, 5218303), (24, 13606911), (25, 30384127), (26, 63938559), (27, 131047423), (28, 265265151), (13, 533700607), (14, 533708799), (20, 533725183), (21, 534773759), (29, 536870911), (30, 1073741823), (31, 2147483647), (32, 4294967295)] | _ => [] }
def pithref14_Coder_Literal.F [Pan] (x0 : Value) (w : World) (Q : Value → World → Prop) : Prop :=
 ∃ I4 : Value → World → Prop,
 (pN Tryz.prog (oNil x0) w fun x6 w1 =>
 pN Tryz.prog (oFld 73 x6 1) w1 fun x7 w2 =>
 pN Tryz.prog (oLoad 66 x7) w2 fun x8 w3 =>
 pN Tryz.prog (oNil x8) w3 fun x9 w4 =>
 pN Tryz.prog (oFld 193 x9 1) w4 fun x10 w5 =>
 pN Tryz.prog (oLoad 30 x10) w5 fun x11 w6 =>
 pN Tryz.prog (oBi .len #[30] 3 [false] [x11]) w6 fun x12 w7 =>
 pN Tryz.prog (oBin .gtr 3 (.tmp 12) (.const (.int .i64 0)) x12 (.int .i64 0)) w7 fun x13 w8 =>
 pIf x13
 (pDr w8 fun w9 =>
 pA Tryz.prog (oNil x0) fun x15 =>
 pA Tryz.prog (oFld 73 x15 1) fun x16 =>
 pL Tryz.prog (oLoad 66 x16) w9 fun x17 =>
 pA Tryz.prog (oNil x17) fun x18 =>
 pA Tryz.prog (oFld 193 x18 1) fun x19 =>
 pL Tryz.prog (oLoad 30 x19) w9 fun x20 =>
 pA Tryz.prog (oNil x0) fun x22 =>
 pA Tryz.prog (oFld 73 x22 1) fun x23 =>
 pL Tryz.prog (oLoad 66 x23) w9 fun x24 =>
 pA Tryz.prog (oNil x24) fun x25 =>
 pA Tryz.prog (oFld 193 x25 1) fun x26 =>
 pL Tryz.prog (oLoad 30 x26) w9 fun x27 =>
 pA Tryz.prog (oBi .len #[30] 3 [false] [x27]) fun x28 =>
 pA Tryz.prog (oBin .sub 3 (.tmp 28) (.const (.int .i64 1)) x28 (.int .i64 1)) fun x29 =>
 pA Tryz.prog (oIdx 30 x20 x29) fun x30 =>
 pL Tryz.prog (oLoad 5 x30) w9 fun x31 =>
 pL Tryz.prog (oConv 5 3 x31) w9 fun x32 =>
 I4 x32 w9)
 (I4 (.int .i64 0) w8)) ∧
 ∀ (_j4 : Env) (before3c4 : Value) (w10 : World), I4 before3c4 w10 →
 pDr w10 fun w11 =>
 pA Tryz.prog (oNil x0) fun x34 =>
 pA Tryz.prog (oFld 73 x34 1) fun x35 =>
 pL Tryz.prog (oLoad 66 x35) w11 fun x36 =>
 pA Tryz.prog (oNil x36) fun x37 =>
 pA Tryz.prog (oFld 193 x37 1) fun x38 =>
 pL Tryz.prog (oLoad 30 x38) w11 fun x39 =>
 pA Tryz.prog (oBi .len #[30] 3 [false] [x39]) fun x40 =>
 pA Tryz.prog (oNil x0) fun x42 =>
 pA Tryz.prog (oFld 73 x42 0) fun x43 =>
 pA Tryz.prog (oFld 23 x43 1) fun x44 =>
 pL Tryz.prog (oLoad 3 x44) w11 fun x45 =>
 pA Tryz.prog (oNil x0) fun x49 =>
 pA Tryz.prog (oFld 73 x49 0) fun x50 =>
 pA Tryz.prog (oFld 23 x50 0) fun x51 =>
 pL Tryz.prog (oLoad 3 x51) w11 fun x52 =>
 pA Tryz.prog (oNil x0) fun x57 =>
 pA Tryz.prog (oFld 73 x57 0) fun x58 =>
 pA Tryz.prog (oFld 23 x58 0) fun x59 =>
 pL Tryz.prog (oLoad 3 x59) w11 fun x60 =>
 pA Tryz.prog (oBin .sub 3 (.const (.int .i64 8)) (.tmp 60) (.int .i64 8) x60) fun x61 =>
 pN Tryz.prog (oCall 149 [x45]) w11 fun x46 w12 =>
 ((Sem.run Tryz.prog (oLoad 3 x59) w12 = .ok (.value x60) w12) ∧ (Sem.run Tryz.prog (oLoad 3 x51) w12 = .ok (.value x52) w12) ∧ (Sem.run Tryz.prog (oLoad 30 x38) w12 = .ok (.value x39) w12) ∧ (Sem.run Tryz.prog (oLoad 66 x35) w12 = .ok (.value x36) w12) ∧ True) ∧ (pA Tryz.prog (oBin .rem 3 (.tmp 40) (.tmp 46) x40 x46) fun x47 =>
 pN Tryz.prog (oCall 149 [x52]) w12 fun x53 w13 =>
 ((Sem.run Tryz.prog (oLoad 3 x59) w13 = .ok (.value x60) w13) ∧ (Sem.run Tryz.prog (oLoad 30 x38) w13 = .ok (.value x39) w13) ∧ (Sem.run Tryz.prog (oLoad 66 x35) w13 = .ok (.value x36) w13) ∧ True) ∧ (pA Tryz.prog (oBin .mul 3 (.tmp 47) (.tmp 53) x47 x53) fun x54 =>
 pN Tryz.prog (oCall 149 [x61]) w13 fun x62 w14 =>
 ((Sem.run Tryz.prog (oLoad 30 x38) w14 = .ok (.value x39) w14) ∧ (Sem.run Tryz.prog (oLoad 66 x35) w14 = .ok (.value x36) w14) ∧ True) ∧ (pA Tryz.prog (oBin .quo 3 (.tmp 55) (.tmp 62) before3c4 x62) fun x63 =>
 pA Tryz.prog (oBin .add 3 (.tmp 54) (.tmp 63) x54 x63) fun x64 =>
 pN Tryz.prog (oBs 217 1 [(0, x64)]) w14 fun x66 w15 =>
 pN Tryz.prog (oCall 108 [(.string ⟨#[76, 105, 116, 101, 114, 97, 108]⟩), x66]) w15 fun x67 w16 =>
 Q x67 w16)))
theorem pithref14_Coder_Literal.calls [Pan] {x0 : Value} {w : World} {Q : Value → World → Prop} (h : pithref14_Coder_Literal.F x0 w Q) : Calls Tryz.prog 151 #[x0] w (retP Q) := calls_lift mixed pithref14_Coder_Literal.H [x0] Tryz.func151 (by kernel_rfl) (by kernel_rfl) h

end Go.Proofs.YtbgnnjfpiblkmaaGreatDoor

namespace Go.Proofs.YtbgnnjfpiblkmaaGreatDoor
open Go
set_option maxRecDepth 100000

def pithref13_Apply.H : Hints := { cut := fun  | _ => none, loop := fun  | _ => ([], 0), order := fun | 7 => [(0, 0), (1, 1), (2, 3), (3, 7), (4, 15)] | 8 => [(0, 0), (1, 1), (2, 3), (4, 7), (3, 23), (5, 31), (6, 63), (7, 127), (8, 255), (9, 511), (10, 1023), (11, 2047)] | 11 => [(0, 0), (1, 1), (2, 3), (3, 7), (4, 15)] | _ => [] }
def pithref13_Apply.F [Pan] (x0 x1 x2 : Value) (w : World) (Q : Value → World → Prop) : Prop :=
 pN Tryz.prog (oBox 69 x1) w fun x4 w1 =>
 pN Tryz.prog (oBox 48 x2) w1 fun x5 w2 =>
 pN Tryz.prog (oAlloc 69) w2 fun x7 w3 =>
 pN Tryz.prog (oLoad 69 x4) w3 fun x14 w4 =>
 pN Tryz.prog (oLoad 48 x5) w4 fun x15 w5 =>
 pN Tryz.prog (oCall 119 [x14, x15]) w5 fun x16 w6 =>
 pN Tryz.prog (oExt x16 0) w6 fun x17 w7 =>
 pN Tryz.prog (oExt x16 1) w7 fun x18 w8 =>
 pN Tryz.prog (oAlloc 69) w8 fun x9 w9 =>
 pN Tryz.prog (oStore 69 x9 x17) w9 fun _ w10 =>
 pN Tryz.prog (oBin .neq 3 (.tmp 19) (.const (.int .i64 0)) x18 (.int .i64 0)) w10 fun x20 w11 =>
 pIf x20
 (pN Tryz.prog (oBuild 69 []) w11 fun x21 w12 =>
 pN Tryz.prog (oStore 69 x7 x21) w12 fun _ w13 =>
 pL Tryz.prog (oRes 69 x7) w13 fun r7 =>
 Q (.tuple #[(.slice none 0 0), r7, x18]) w13)
 (pN Tryz.prog (oFld 48 x5 0) w11 fun x23 w14 =>
 pN Tryz.prog (oLoad 3 x23) w14 fun x24 w15 =>
 pN Tryz.prog (oBin .eql 3 (.tmp 24) (.const (.int .i64 1)) x24 (.int .i64 1)) w15 fun x25 w16 =>
 pIf x25
 (pN Tryz.prog (oFld 48 x5 1) w16 fun x26 w17 =>
 pN Tryz.prog (oLoad 5 x26) w17 fun x27 w18 =>
 pN Tryz.prog (oBs 30 1 [(0, x27)]) w18 fun x28 w19 =>
 pN Tryz.prog (oCall 78 [x0, x28]) w19 fun _ w20 =>
 pDr w20 fun w21 =>
 pL Tryz.prog (oLoad 69 x9) w21 fun x33 =>
 pN Tryz.prog (oStore 69 x7 x33) w21 fun _ w22 =>
 (True) ∧ (pL Tryz.prog (oRes 69 x7) w22 fun r7 =>
 Q (.tuple #[x28, r7, (.int .i64 0)]) w22))
 (pDr w16 fun w23 =>
 pL Tryz.prog (oLoad 69 x4) w23 fun x36 =>
 pL Tryz.prog (oLoad 48 x5) w23 fun x37 =>
 pL Tryz.prog (oLoad 48 x5) w23 fun x39 =>
 pN Tryz.prog (oCall 121 [x36, x37]) w23 fun x38 w24 =>
 ((Sem.run Tryz.prog (oLoad 48 x5) w24 = .ok (.value x39) w24) ∧ True) ∧ (pN Tryz.prog (oCall 122 [x39]) w24 fun x40 w25 =>
 (True) ∧ (pN Tryz.prog (oCall 120 [x0, x38, x40]) w25 fun x41 w26 =>
 (True) ∧ (pA Tryz.prog (oExt x41 0) fun x42 =>
 pA Tryz.prog (oExt x41 1) fun x43 =>
 pN Tryz.prog (oBin .neq 3 (.tmp 44) (.const (.int .i64 0)) x43 (.int .i64 0)) w26 fun x45 w27 =>
 pIf x45
 (pN Tryz.prog (oBuild 69 []) w27 fun x46 w28 =>
 pN Tryz.prog (oStore 69 x7 x46) w28 fun _ w29 =>
 pL Tryz.prog (oRes 69 x7) w29 fun r7 =>
 Q (.tuple #[(.slice none 0 0), r7, (.int .i64 7)]) w29)
 (pDr w27 fun w30 =>
 pL Tryz.prog (oLoad 69 x9) w30 fun x48 =>
 pN Tryz.prog (oStore 69 x7 x48) w30 fun _ w31 =>
 (True) ∧ (pL Tryz.prog (oRes 69 x7) w31 fun r7 =>
 Q (.tuple #[x42, r7, (.int .i64 0)]) w31)))))))
theorem pithref13_Apply.calls [Pan] {x0 x1 x2 : Value} {w : World} {Q : Value → World → Prop} (h : pithref13_Apply.F x0 x1 x2 w Q) : Calls Tryz.prog 73 #[x0, x1, x2] w (retP Q) := calls_lift mixed pithref13_Apply.H [x0, x1, x2] Tryz.func73 (by kernel_rfl) (by kernel_rfl) h

def pithref13_Dist.F [Pan] (x0 x1 : Value) (w : World) (Q : Value → World → Prop) : Prop :=
 pN Tryz.prog (oBox 69 x0) w fun x2 w1 =>
 pN Tryz.prog (oBox 48 x1) w1 fun x3 w2 =>
 pN Tryz.prog (oFld 48 x3 0) w2 fun x5 w3 =>
 pN Tryz.prog (oLoad 3 x5) w3 fun x6 w4 =>
 pN Tryz.prog (oBin .eql 3 (.tmp 6) (.const (.int .i64 2)) x6 (.int .i64 2)) w4 fun x8 w5 =>
 pIf x8
 (pN Tryz.prog (oFld 48 x3 3) w5 fun x9 w6 =>
 pN Tryz.prog (oLoad 3 x9) w6 fun x10 w7 =>
 Q x10 w7)
 (pN Tryz.prog (oBin .eql 3 (.tmp 6) (.const (.int .i64 3)) x6 (.int .i64 3)) w5 fun x12 w8 =>
 pIf x12
 (pN Tryz.prog (oFld 48 x3 3) w8 fun x13 w9 =>
 pN Tryz.prog (oLoad 3 x13) w9 fun x14 w10 =>
 pN Tryz.prog (oFld 69 x2 1) w10 fun x15 w11 =>
 pN Tryz.prog (oIdx 67 x15 x14) w11 fun x16 w12 =>
 pN Tryz.prog (oLoad 3 x16) w12 fun x17 w13 =>
 Q x17 w13)
 (pN Tryz.prog (oFld 69 x2 1) w8 fun x18 w14 =>
 pN Tryz.prog (oIdx 67 x18 (.int .i64 0)) w14 fun x19 w15 =>
 pN Tryz.prog (oLoad 3 x19) w15 fun x20 w16 =>
 Q x20 w16))
theorem pithref13_Dist.calls [Pan] {x0 x1 : Value} {w : World} {Q : Value → World → Prop} (h : pithref13_Dist.F x0 x1 w Q) : Calls Tryz.prog 121 #[x0, x1] w (retP Q) := calls_lift mixed .z [x0, x1] Tryz.func121 (by kernel_rfl) (by kernel_rfl) h

def pithref13_Size.F [Pan] (x0 : Value) (w : World) (Q : Value → World → Prop) : Prop :=
 pN Tryz.prog (oBox 48 x0) w fun x1 w1 =>
 pN Tryz.prog (oLoad 48 x1) w1 fun x3 w2 =>
 pN Tryz.prog (oCall 160 [x3]) w2 fun x4 w3 =>
 pN Tryz.prog (oBin .neq 3 (.tmp 4) (.const (.int .i64 0)) x4 (.int .i64 0)) w3 fun x5 w4 =>
 pIf x5
 (Q (.int .i64 0) w4)
 (pN Tryz.prog (oFld 48 x1 0) w4 fun x6 w5 =>
 pN Tryz.prog (oLoad 3 x6) w5 fun x7 w6 =>
 pN Tryz.prog (oBin .eql 3 (.tmp 7) (.const (.int .i64 2)) x7 (.int .i64 2)) w6 fun x8 w7 =>
 pGd (gB x8 false) (pN Tryz.prog (oFld 48 x1 0) w7) w7 fun x10 w8 =>
 pGd (gB x8 false) (pN Tryz.prog (oLoad 3 x10) w8) w8 fun x11 w9 =>
 pGd (gB x8 false) (pN Tryz.prog (oBin .eql 3 (.tmp 11) (.const (.int .i64 3)) x11 (.int .i64 3)) w9) w9 fun x12 w10 =>
 pN Tryz.prog (oPick x8 (.bool true) x12) w10 fun x13 w11 =>
 pIf x13
 (pN Tryz.prog (oFld 48 x1 2) w11 fun x14 w12 =>
 pN Tryz.prog (oLoad 3 x14) w12 fun x15 w13 =>
 Q x15 w13)
 (Q (.int .i64 1) w11))
theorem pithref13_Size.calls [Pan] {x0 : Value} {w : World} {Q : Value → World → Prop} (h : pithref13_Size.F x0 w Q) : Calls Tryz.prog 122 #[x0] w (retP Q) := calls_lift mixed .z [x0] Tryz.func122 (by kernel_rfl) (by kernel_rfl) h

end Go.Proofs.YtbgnnjfpiblkmaaGreatDoor

namespace Go.Proofs.YtbgnnjfpiblkmaaGreatDoor
open Go
set_option maxRecDepth 100000

def pithref10_New.F [Pan] (x0 : Value) (w : World) (Q : Value → World → Prop) : Prop :=
 pN Tryz.prog (oBin .lss 3 (.tmp 4) (.const (.int .i64 1)) x0 (.int .i64 1)) w fun x5 w1 =>
 pGd (gB x5 false) (pN Tryz.prog (oMv x0) w1) w1 fun x7 w2 =>
 pGd (gB x5 false) (pN Tryz.prog (oBin .gtr 3 (.tmp 7) (.const (.int .i64 4294967295)) x7 (.int .i64 4294967295)) w2) w2 fun x8 w3 =>
 pN Tryz.prog (oPick x5 (.bool true) x8) w3 fun x9 w4 =>
 pIf x9
 (Q (.tuple #[(.pointer none), (.int .i64 7)]) w4)
 (pN Tryz.prog (oBuild 193 [(0, x0)]) w4 fun x11 w5 =>
 pN Tryz.prog (oBox 193 x11) w5 fun x12 w6 =>
 Q (.tuple #[x12, (.int .i64 0)]) w6)
theorem pithref10_New.calls [Pan] {x0 : Value} {w : World} {Q : Value → World → Prop} (h : pithref10_New.F x0 w Q) : Calls Tryz.prog 64 #[x0] w (retP Q) := calls_lift mixed .z [x0] Tryz.func64 (by kernel_rfl) (by kernel_rfl) h

def pithref10_Window_Put.F [Pan] (x0 x1 : Value) (w : World) (Q : Value → World → Prop) : Prop :=
 pN Tryz.prog (oNil x0) w fun x6 w1 =>
 pN Tryz.prog (oFld 193 x6 1) w1 fun x7 w2 =>
 pN Tryz.prog (oLoad 30 x7) w2 fun x8 w3 =>
 pN Tryz.prog (oBi .append #[30, 30] 30 [false, false] [x8, x1]) w3 fun x10 w4 =>
 pN Tryz.prog (oNil x0) w4 fun x11 w5 =>
 pN Tryz.prog (oFld 193 x11 1) w5 fun x12 w6 =>
 pN Tryz.prog (oStore 30 x12 x10) w6 fun _ w7 =>
 Q (.tuple #[]) w7
theorem pithref10_Window_Put.calls [Pan] {x0 x1 : Value} {w : World} {Q : Value → World → Prop} (h : pithref10_Window_Put.F x0 x1 w Q) : Calls Tryz.prog 78 #[x0, x1] w (retP Q) := calls_lift mixed .z [x0, x1] Tryz.func78 (by kernel_rfl) (by kernel_rfl) h

def pithref10_Window_Clear.F [Pan] (x0 : Value) (w : World) (Q : Value → World → Prop) : Prop :=
 pN Tryz.prog (oNil x0) w fun x3 w1 =>
 pN Tryz.prog (oFld 193 x3 1) w1 fun x4 w2 =>
 pN Tryz.prog (oStore 30 x4 (.slice none 0 0)) w2 fun _ w3 =>
 Q (.tuple #[]) w3
theorem pithref10_Window_Clear.calls [Pan] {x0 : Value} {w : World} {Q : Value → World → Prop} (h : pithref10_Window_Clear.F x0 w Q) : Calls Tryz.prog 79 #[x0] w (retP Q) := calls_lift mixed .z [x0] Tryz.func79 (by kernel_rfl) (by kernel_rfl) h

def pithref10_Window_Copy.H : Hints := { cut := fun  | _ => none, loop := fun | 5 => ([8, 9], 36028797010577152) | _ => ([], 0), order := fun | 7 => [(0, 0), (1, 1), (2, 3), (3, 7), (4, 15), (5, 31), (6, 63), (7, 127), (8, 255), (9, 511), (10, 1023), (11, 2047), (12, 4095), (13, 8191)] | _ => [] }
def pithref10_Window_Copy.F [Pan] (x0 x1 x2 : Value) (w : World) (Q : Value → World → Prop) : Prop :=
 pN Tryz.prog (oCall 162 [x0, x1]) w fun x13 w1 =>
 pN Tryz.prog (oUn .not x13) w1 fun x14 w2 =>
 pGd (gB x14 false) (pN Tryz.prog (oMv x2) w2) w2 fun x16 w3 =>
 pGd (gB x14 false) (pN Tryz.prog (oBin .lss 3 (.tmp 16) (.const (.int .i64 0)) x16 (.int .i64 0)) w3) w3 fun x17 w4 =>
 pN Tryz.prog (oPick x14 (.bool true) x17) w4 fun x18 w5 =>
 pGd (gB x18 false) (pN Tryz.prog (oMv x2) w5) w5 fun x20 w6 =>
 pGd (gB x18 false) (pN Tryz.prog (oBin .gtr 3 (.tmp 20) (.const (.int .i64 273)) x20 (.int .i64 273)) w6) w6 fun x21 w7 =>
 pN Tryz.prog (oPick x18 (.bool true) x21) w7 fun x22 w8 =>
 pIf x22
 (Q (.tuple #[(.slice none 0 0), (.int .i64 7)]) w8)
 (∃ (L5 : Value → Value → World → Prop) (m5 : Value → Value → World → Nat),
 L5 (.slice none 0 0) (.int .i64 0) w8 ∧
 ∀ (_k5 : Env) (out8l5 : Value) (i9l5 : Value) (w9 : World), L5 out8l5 i9l5 w9 →
 pN Tryz.prog (oBin .lss 3 (.tmp 23) (.tmp 24) i9l5 x2) w9 fun x25 w10 =>
 pIf x25
 (pDr w10 fun w11 =>
 pA Tryz.prog (oNil x0) fun x29 =>
 pA Tryz.prog (oFld 193 x29 1) fun x30 =>
 pL Tryz.prog (oLoad 30 x30) w11 fun x31 =>
 pA Tryz.prog (oNil x0) fun x33 =>
 pA Tryz.prog (oFld 193 x33 1) fun x34 =>
 pL Tryz.prog (oLoad 30 x34) w11 fun x35 =>
 pA Tryz.prog (oBi .len #[30] 3 [false] [x35]) fun x36 =>
 pA Tryz.prog (oBin .sub 3 (.tmp 36) (.tmp 37) x36 x1) fun x38 =>
 pA Tryz.prog (oIdx 30 x31 x38) fun x39 =>
 pL Tryz.prog (oLoad 5 x39) w11 fun x40 =>
 pN Tryz.prog (oNil x0) w11 fun x43 w12 =>
 pN Tryz.prog (oFld 193 x43 1) w12 fun x44 w13 =>
 pN Tryz.prog (oLoad 30 x44) w13 fun x45 w14 =>
 pN Tryz.prog (oBs 30 1 [(0, x40)]) w14 fun x47 w15 =>
 pN Tryz.prog (oBi .append #[30, 30] 30 [false, false] [x45, x47]) w15 fun x48 w16 =>
 pN Tryz.prog (oNil x0) w16 fun x49 w17 =>
 pN Tryz.prog (oFld 193 x49 1) w17 fun x50 w18 =>
 pN Tryz.prog (oStore 30 x50 x48) w18 fun _ w19 =>
 pN Tryz.prog (oBs 30 1 [(0, x40)]) w19 fun x53 w20 =>
 pN Tryz.prog (oBi .append #[30, 30] 30 [false, false] [out8l5, x53]) w20 fun x54 w21 =>
 pN Tryz.prog (oBin .add 3 (.tmp 26) (.const (.int .i64 1)) i9l5 (.int .i64 1)) w21 fun x27 w22 =>
 (L5 x54 x27 w22 ∧ m5 x54 x27 w22 < m5 out8l5 i9l5 w9))
 (Q (.tuple #[out8l5, (.int .i64 0)]) w10))
theorem pithref10_Window_Copy.calls [Pan] {x0 x1 x2 : Value} {w : World} {Q : Value → World → Prop} (h : pithref10_Window_Copy.F x0 x1 x2 w Q) : Calls Tryz.prog 120 #[x0, x1, x2] w (retP Q) := calls_lift mixed pithref10_Window_Copy.H [x0, x1, x2] Tryz.func120 (by kernel_rfl) (by kernel_rfl) h

def pithref10_Window_Last.H : Hints := { cut := fun  | _ => none, loop := fun  | _ => ([], 0), order := fun | 3 => [(0, 0), (1, 1), (2, 3), (3, 7), (4, 15), (5, 31), (6, 63), (7, 127), (8, 255), (9, 511), (10, 1023), (11, 2047), (12, 4095), (13, 8191), (14, 16383)] | _ => [] }
def pithref10_Window_Last.F [Pan] (x0 x1 : Value) (w : World) (Q : Value → World → Prop) : Prop :=
 pN Tryz.prog (oCall 162 [x0, x1]) w fun x8 w1 =>
 pN Tryz.prog (oUn .not x8) w1 fun x9 w2 =>
 pIf x9
 (Q (.tuple #[(bv 0), (.int .i64 7)]) w2)
 (pDr w2 fun w3 =>
 pA Tryz.prog (oNil x0) fun x11 =>
 pA Tryz.prog (oFld 193 x11 1) fun x12 =>
 pL Tryz.prog (oLoad 30 x12) w3 fun x13 =>
 pA Tryz.prog (oNil x0) fun x15 =>
 pA Tryz.prog (oFld 193 x15 1) fun x16 =>
 pL Tryz.prog (oLoad 30 x16) w3 fun x17 =>
 pA Tryz.prog (oBi .len #[30] 3 [false] [x17]) fun x18 =>
 pA Tryz.prog (oBin .sub 3 (.tmp 18) (.tmp 19) x18 x1) fun x20 =>
 pA Tryz.prog (oIdx 30 x13 x20) fun x21 =>
 pL Tryz.prog (oLoad 5 x21) w3 fun x22 =>
 Q (.tuple #[x22, (.int .i64 0)]) w3)
theorem pithref10_Window_Last.calls [Pan] {x0 x1 : Value} {w : World} {Q : Value → World → Prop} (h : pithref10_Window_Last.F x0 x1 w Q) : Calls Tryz.prog 153 #[x0, x1] w (retP Q) := calls_lift mixed pithref10_Window_Last.H [x0, x1] Tryz.func153 (by kernel_rfl) (by kernel_rfl) h

def pithref10_Window_Has.F [Pan] (x0 x1 : Value) (w : World) (Q : Value → World → Prop) : Prop :=
 pN Tryz.prog (oBin .gtr 3 (.tmp 5) (.const (.int .i64 0)) x1 (.int .i64 0)) w fun x6 w1 =>
 pGd (gB x6 true) (pN Tryz.prog (oMv x1) w1) w1 fun x8 w2 =>
 pGd (gB x6 true) (pN Tryz.prog (oMv x0) w2) w2 fun x9 w3 =>
 pGd (gB x6 true) (pN Tryz.prog (oCall 178 [x9]) w3) w3 fun x10 w4 =>
 pGd (gB x6 true) (pN Tryz.prog (oBin .leq 3 (.tmp 8) (.tmp 10) x8 x10) w4) w4 fun x11 w5 =>
 pN Tryz.prog (oPick x6 x11 (.bool false)) w5 fun x12 w6 =>
 Q x12 w6
theorem pithref10_Window_Has.calls [Pan] {x0 x1 : Value} {w : World} {Q : Value → World → Prop} (h : pithref10_Window_Has.F x0 x1 w Q) : Calls Tryz.prog 162 #[x0, x1] w (retP Q) := calls_lift mixed .z [x0, x1] Tryz.func162 (by kernel_rfl) (by kernel_rfl) h

def pithref10_Window_Full.H : Hints := { cut := fun  | _ => none, loop := fun  | _ => ([], 0), order := fun | 1 => [(0, 0), (1, 1), (2, 3), (3, 7), (4, 15), (5, 31), (6, 63), (7, 127), (8, 255), (9, 511)] | _ => [] }
def pithref10_Window_Full.F [Pan] (x0 : Value) (w : World) (Q : Value → World → Prop) : Prop :=
 pDr w fun w1 =>
 pA Tryz.prog (oNil x0) fun x4 =>
 pA Tryz.prog (oFld 193 x4 1) fun x5 =>
 pL Tryz.prog (oLoad 30 x5) w1 fun x6 =>
 pA Tryz.prog (oBi .len #[30] 3 [false] [x6]) fun x7 =>
 pA Tryz.prog (oNil x0) fun x9 =>
 pA Tryz.prog (oFld 193 x9 0) fun x10 =>
 pL Tryz.prog (oLoad 3 x10) w1 fun x11 =>
 pA Tryz.prog (oBin .lss 3 (.tmp 7) (.tmp 11) x7 x11) fun x12 =>
 pIf x12
 (pN Tryz.prog (oNil x0) w1 fun x14 w2 =>
 pN Tryz.prog (oFld 193 x14 1) w2 fun x15 w3 =>
 pN Tryz.prog (oLoad 30 x15) w3 fun x16 w4 =>
 pN Tryz.prog (oBi .len #[30] 3 [false] [x16]) w4 fun x17 w5 =>
 Q x17 w5)
 (pN Tryz.prog (oNil x0) w1 fun x19 w6 =>
 pN Tryz.prog (oFld 193 x19 0) w6 fun x20 w7 =>
 pN Tryz.prog (oLoad 3 x20) w7 fun x21 w8 =>
 Q x21 w8)
theorem pithref10_Window_Full.calls [Pan] {x0 : Value} {w : World} {Q : Value → World → Prop} (h : pithref10_Window_Full.F x0 w Q) : Calls Tryz.prog 178 #[x0] w (retP Q) := calls_lift mixed pithref10_Window_Full.H [x0] Tryz.func178 (by kernel_rfl) (by kernel_rfl) h

end Go.Proofs.YtbgnnjfpiblkmaaGreatDoor

namespace Go.Proofs.YtbgnnjfpiblkmaaGreatDoor
open Go
set_option maxRecDepth 100000

def symbol_Apply.H : Hints := { cut := fun | 15 => some ([10, 11], 590295810358701460480) | _ => none, loop := fun  | _ => ([], 0), order := fun | 12 => [(0, 0), (1, 1), (2, 3), (3, 7), (4, 15), (5, 31), (6, 63), (7, 127), (8, 255), (9, 511), (10, 1023), (11, 2047), (12, 4095), (13, 8191)] | 17 => [(0, 0), (1, 1), (2, 3), (3, 7), (4, 15)] | _ => [] }
def symbol_Apply.F [Pan] (x0 x1 x2 : Value) (w : World) (Q : Value → World → Prop) : Prop :=
 pN Tryz.prog (oBox 100 x1) w fun x4 w1 =>
 pN Tryz.prog (oBox 48 x2) w1 fun x5 w2 =>
 pN Tryz.prog (oAlloc 100) w2 fun x7 w3 =>
 pN Tryz.prog (oLoad 100 x4) w3 fun x13 w4 =>
 pN Tryz.prog (oLoad 48 x5) w4 fun x14 w5 =>
 pN Tryz.prog (oCall 92 [x13, x14]) w5 fun x15 w6 =>
 pN Tryz.prog (oExt x15 0) w6 fun x16 w7 =>
 pN Tryz.prog (oExt x15 1) w7 fun x17 w8 =>
 pN Tryz.prog (oAlloc 100) w8 fun x9 w9 =>
 pN Tryz.prog (oStore 100 x9 x16) w9 fun _ w10 =>
 pN Tryz.prog (oBin .neq 38 (.tmp 18) (.const (.int .i64 0)) x17 (.int .i64 0)) w10 fun x19 w11 =>
 pIf x19
 (pN Tryz.prog (oBuild 100 []) w11 fun x20 w12 =>
 pN Tryz.prog (oStore 100 x7 x20) w12 fun _ w13 =>
 pL Tryz.prog (oRes 100 x7) w13 fun r7 =>
 Q (.tuple #[(.slice none 0 0), r7, x17]) w13)
 (∃ I15 : Value → Value → World → Prop,
 (pN Tryz.prog (oFld 48 x5 0) w11 fun x22 w14 =>
 pN Tryz.prog (oLoad 3 x22) w14 fun x23 w15 =>
 pN Tryz.prog (oBin .eql 3 (.tmp 23) (.const (.int .i64 1)) x23 (.int .i64 1)) w15 fun x25 w16 =>
 pIf x25
 (pN Tryz.prog (oFld 48 x5 1) w16 fun x26 w17 =>
 pN Tryz.prog (oLoad 5 x26) w17 fun x27 w18 =>
 pN Tryz.prog (oBs 30 1 [(0, x27)]) w18 fun x28 w19 =>
 pN Tryz.prog (oFld 48 x5 1) w19 fun x30 w20 =>
 pN Tryz.prog (oLoad 5 x30) w20 fun x31 w21 =>
 pN Tryz.prog (oBs 30 1 [(0, x31)]) w21 fun x32 w22 =>
 pN Tryz.prog (oCall 46 [x0, x32]) w22 fun _ w23 =>
 I15 x17 x28 w23)
 (pN Tryz.prog (oBin .eql 3 (.tmp 23) (.const (.int .i64 2)) x23 (.int .i64 2)) w16 fun x35 w24 =>
 pIf x35
 (pN Tryz.prog (oFld 48 x5 3) w24 fun x38 w25 =>
 pN Tryz.prog (oLoad 3 x38) w25 fun x39 w26 =>
 pN Tryz.prog (oFld 48 x5 2) w26 fun x40 w27 =>
 pN Tryz.prog (oLoad 3 x40) w27 fun x41 w28 =>
 pN Tryz.prog (oCall 93 [x0, x39, x41]) w28 fun x42 w29 =>
 pN Tryz.prog (oExt x42 0) w29 fun x43 w30 =>
 pN Tryz.prog (oExt x42 1) w30 fun x44 w31 =>
 I15 x44 x43 w31)
 (pN Tryz.prog (oBin .eql 3 (.tmp 23) (.const (.int .i64 3)) x23 (.int .i64 3)) w24 fun x46 w32 =>
 pIf x46
 (pDr w32 fun w33 =>
 pA Tryz.prog (oFld 48 x5 3) fun x49 =>
 pL Tryz.prog (oLoad 3 x49) w33 fun x50 =>
 pA Tryz.prog (oFld 100 x4 1) fun x51 =>
 pA Tryz.prog (oIdx 67 x51 x50) fun x52 =>
 pL Tryz.prog (oLoad 3 x52) w33 fun x53 =>
 pA Tryz.prog (oFld 48 x5 2) fun x54 =>
 pL Tryz.prog (oLoad 3 x54) w33 fun x55 =>
 pN Tryz.prog (oCall 93 [x0, x53, x55]) w33 fun x56 w34 =>
 (True) ∧ (pA Tryz.prog (oExt x56 0) fun x57 =>
 pA Tryz.prog (oExt x56 1) fun x58 =>
 I15 x58 x57 w34))
 (pN Tryz.prog (oBin .eql 3 (.tmp 23) (.const (.int .i64 4)) x23 (.int .i64 4)) w32 fun x60 w35 =>
 pIf x60
 (pN Tryz.prog (oFld 100 x4 1) w35 fun x63 w36 =>
 pN Tryz.prog (oIdx 67 x63 (.int .i64 0)) w36 fun x64 w37 =>
 pN Tryz.prog (oLoad 3 x64) w37 fun x65 w38 =>
 pN Tryz.prog (oCall 93 [x0, x65, (.int .i64 1)]) w38 fun x66 w39 =>
 pN Tryz.prog (oExt x66 0) w39 fun x67 w40 =>
 pN Tryz.prog (oExt x66 1) w40 fun x68 w41 =>
 I15 x68 x67 w41)
 (I15 x17 (.slice none 0 0) w35))))) ∧
 ∀ (_j15 : Env) (e10c15 : Value) (b11c15 : Value) (w42 : World), I15 e10c15 b11c15 w42 →
 pN Tryz.prog (oBin .neq 38 (.tmp 69) (.const (.int .i64 0)) e10c15 (.int .i64 0)) w42 fun x70 w43 =>
 pIf x70
 (pN Tryz.prog (oBuild 100 []) w43 fun x71 w44 =>
 pN Tryz.prog (oStore 100 x7 x71) w44 fun _ w45 =>
 pL Tryz.prog (oRes 100 x7) w45 fun r7 =>
 Q (.tuple #[(.slice none 0 0), r7, e10c15]) w45)
 (pDr w43 fun w46 =>
 pL Tryz.prog (oLoad 100 x9) w46 fun x74 =>
 pN Tryz.prog (oStore 100 x7 x74) w46 fun _ w47 =>
 (True) ∧ (pL Tryz.prog (oRes 100 x7) w47 fun r7 =>
 Q (.tuple #[b11c15, r7, (.int .i64 0)]) w47)))
theorem symbol_Apply.calls [Pan] {x0 x1 x2 : Value} {w : World} {Q : Value → World → Prop} (h : symbol_Apply.F x0 x1 x2 w Q) : Calls Tryz.prog 48 #[x0, x1, x2] w (retP Q) := calls_lift mixed symbol_Apply.H [x0, x1, x2] Tryz.func48 (by kernel_rfl) (by kernel_rfl) h

def symbol_Size.F [Pan] (x0 : Value) (w : World) (Q : Value → World → Prop) : Prop :=
 pN Tryz.prog (oBox 48 x0) w fun x1 w1 =>
 pDr w1 fun w2 =>
 pL Tryz.prog (oLoad 48 x1) w2 fun x7 =>
 (pN Tryz.prog (oCall 43 []) w2 fun x6 w3 =>
 ((Sem.run Tryz.prog (oLoad 48 x1) w3 = .ok (.value x7) w3) ∧ True) ∧ ((pN Tryz.prog (oCall 92 [x6, x7]) w3 fun x8 w4 =>
 (True) ∧ (pA Tryz.prog (oExt x8 0) fun x9 =>
 pA Tryz.prog (oExt x8 1) fun x10 =>
 pN Tryz.prog (oAlloc 100) w4 fun x3 w5 =>
 (True) ∧ (pN Tryz.prog (oStore 100 x3 x9) w5 fun _ w6 =>
 (True) ∧ (pN Tryz.prog (oBin .neq 38 (.tmp 11) (.const (.int .i64 0)) x10 (.int .i64 0)) w6 fun x12 w7 =>
 pIf x12
 (Q (.int .i64 0) w7)
 (pN Tryz.prog (oFld 48 x1 0) w7 fun x13 w8 =>
 pN Tryz.prog (oLoad 3 x13) w8 fun x14 w9 =>
 pN Tryz.prog (oBin .eql 3 (.tmp 14) (.const (.int .i64 2)) x14 (.int .i64 2)) w9 fun x15 w10 =>
 pGd (gB x15 false) (pN Tryz.prog (oFld 48 x1 0) w10) w10 fun x17 w11 =>
 pGd (gB x15 false) (pN Tryz.prog (oLoad 3 x17) w11) w11 fun x18 w12 =>
 pGd (gB x15 false) (pN Tryz.prog (oBin .eql 3 (.tmp 18) (.const (.int .i64 3)) x18 (.int .i64 3)) w12) w12 fun x19 w13 =>
 pN Tryz.prog (oPick x15 (.bool true) x19) w13 fun x20 w14 =>
 pIf x20
 (pN Tryz.prog (oFld 48 x1 2) w14 fun x21 w15 =>
 pN Tryz.prog (oLoad 3 x21) w15 fun x22 w16 =>
 Q x22 w16)
 (Q (.int .i64 1) w14)))))) ∧ (pN Tryz.prog (oAlloc 100) w3 fun x3 w17 =>
 ((Sem.run Tryz.prog (oLoad 48 x1) w17 = .ok (.value x7) w17) ∧ True) ∧ (pN Tryz.prog (oCall 92 [x6, x7]) w17 fun x8 w18 =>
 (True) ∧ (pA Tryz.prog (oExt x8 0) fun x9 =>
 pA Tryz.prog (oExt x8 1) fun x10 =>
 pN Tryz.prog (oStore 100 x3 x9) w18 fun _ w19 =>
 (True) ∧ (pN Tryz.prog (oBin .neq 38 (.tmp 11) (.const (.int .i64 0)) x10 (.int .i64 0)) w19 fun x12 w20 =>
 pIf x12
 (Q (.int .i64 0) w20)
 (pN Tryz.prog (oFld 48 x1 0) w20 fun x13 w21 =>
 pN Tryz.prog (oLoad 3 x13) w21 fun x14 w22 =>
 pN Tryz.prog (oBin .eql 3 (.tmp 14) (.const (.int .i64 2)) x14 (.int .i64 2)) w22 fun x15 w23 =>
 pGd (gB x15 false) (pN Tryz.prog (oFld 48 x1 0) w23) w23 fun x17 w24 =>
 pGd (gB x15 false) (pN Tryz.prog (oLoad 3 x17) w24) w24 fun x18 w25 =>
 pGd (gB x15 false) (pN Tryz.prog (oBin .eql 3 (.tmp 18) (.const (.int .i64 3)) x18 (.int .i64 3)) w25) w25 fun x19 w26 =>
 pN Tryz.prog (oPick x15 (.bool true) x19) w26 fun x20 w27 =>
 pIf x20
 (pN Tryz.prog (oFld 48 x1 2) w27 fun x21 w28 =>
 pN Tryz.prog (oLoad 3 x21) w28 fun x22 w29 =>
 Q x22 w29)
 (Q (.int .i64 1) w27)))))))) ∧ (pN Tryz.prog (oAlloc 100) w2 fun x3 w30 =>
 ((Sem.run Tryz.prog (oLoad 48 x1) w30 = .ok (.value x7) w30) ∧ True) ∧ (pN Tryz.prog (oCall 43 []) w30 fun x6 w31 =>
 ((Sem.run Tryz.prog (oLoad 48 x1) w31 = .ok (.value x7) w31) ∧ True) ∧ (pN Tryz.prog (oCall 92 [x6, x7]) w31 fun x8 w32 =>
 (True) ∧ (pA Tryz.prog (oExt x8 0) fun x9 =>
 pA Tryz.prog (oExt x8 1) fun x10 =>
 pN Tryz.prog (oStore 100 x3 x9) w32 fun _ w33 =>
 (True) ∧ (pN Tryz.prog (oBin .neq 38 (.tmp 11) (.const (.int .i64 0)) x10 (.int .i64 0)) w33 fun x12 w34 =>
 pIf x12
 (Q (.int .i64 0) w34)
 (pN Tryz.prog (oFld 48 x1 0) w34 fun x13 w35 =>
 pN Tryz.prog (oLoad 3 x13) w35 fun x14 w36 =>
 pN Tryz.prog (oBin .eql 3 (.tmp 14) (.const (.int .i64 2)) x14 (.int .i64 2)) w36 fun x15 w37 =>
 pGd (gB x15 false) (pN Tryz.prog (oFld 48 x1 0) w37) w37 fun x17 w38 =>
 pGd (gB x15 false) (pN Tryz.prog (oLoad 3 x17) w38) w38 fun x18 w39 =>
 pGd (gB x15 false) (pN Tryz.prog (oBin .eql 3 (.tmp 18) (.const (.int .i64 3)) x18 (.int .i64 3)) w39) w39 fun x19 w40 =>
 pN Tryz.prog (oPick x15 (.bool true) x19) w40 fun x20 w41 =>
 pIf x20
 (pN Tryz.prog (oFld 48 x1 2) w41 fun x21 w42 =>
 pN Tryz.prog (oLoad 3 x21) w42 fun x22 w43 =>
 Q x22 w43)
 (Q (.int .i64 1) w41)))))))
theorem symbol_Size.calls [Pan] {x0 : Value} {w : World} {Q : Value → World → Prop} (h : symbol_Size.F x0 w Q) : Calls Tryz.prog 94 #[x0] w (retP Q) := calls_lift mixed .z [x0] Tryz.func94 (by kernel_rfl) (by kernel_rfl) h

end Go.Proofs.YtbgnnjfpiblkmaaGreatDoor

namespace Go.Proofs.YtbgnnjfpiblkmaaGreatDoor
open Go
set_option maxRecDepth 100000

def state_New.F [Pan]  (w : World) (Q : Value → World → Prop) : Prop :=
 pN Tryz.prog (oAlloc 100) w fun x0 w1 =>
 pN Tryz.prog (oBuild 67 [(0, (.int .i64 1)), (1, (.int .i64 1)), (2, (.int .i64 1)), (3, (.int .i64 1))]) w1 fun x1 w2 =>
 pN Tryz.prog (oBuild 100 [(1, x1)]) w2 fun x2 w3 =>
 pN Tryz.prog (oStore 100 x0 x2) w3 fun _ w4 =>
 pL Tryz.prog (oRes 100 x0) w4 fun r0 =>
 Q r0 w4
theorem state_New.calls [Pan]  {w : World} {Q : Value → World → Prop} (h : state_New.F  w Q) : Calls Tryz.prog 43 #[] w (retP Q) := calls_lift mixed .z [] Tryz.func43 (by kernel_rfl) (by kernel_rfl) h

def state_PropsByte.F [Pan] (x0 : Value) (w : World) (Q : Value → World → Prop) : Prop :=
 pN Tryz.prog (oBox 23 x0) w fun x1 w1 =>
 pN Tryz.prog (oFld 23 x1 0) w1 fun x4 w2 =>
 pN Tryz.prog (oLoad 3 x4) w2 fun x5 w3 =>
 pN Tryz.prog (oBin .lss 3 (.tmp 5) (.const (.int .i64 0)) x5 (.int .i64 0)) w3 fun x6 w4 =>
 pGd (gB x6 false) (pN Tryz.prog (oFld 23 x1 1) w4) w4 fun x8 w5 =>
 pGd (gB x6 false) (pN Tryz.prog (oLoad 3 x8) w5) w5 fun x9 w6 =>
 pGd (gB x6 false) (pN Tryz.prog (oBin .lss 3 (.tmp 9) (.const (.int .i64 0)) x9 (.int .i64 0)) w6) w6 fun x10 w7 =>
 pN Tryz.prog (oPick x6 (.bool true) x10) w7 fun x11 w8 =>
 pGd (gB x11 false) (pN Tryz.prog (oFld 23 x1 2) w8) w8 fun x13 w9 =>
 pGd (gB x11 false) (pN Tryz.prog (oLoad 3 x13) w9) w9 fun x14 w10 =>
 pGd (gB x11 false) (pN Tryz.prog (oBin .lss 3 (.tmp 14) (.const (.int .i64 0)) x14 (.int .i64 0)) w10) w10 fun x15 w11 =>
 pN Tryz.prog (oPick x11 (.bool true) x15) w11 fun x16 w12 =>
 pGd (gB x16 false) (pN Tryz.prog (oFld 23 x1 2) w12) w12 fun x18 w13 =>
 pGd (gB x16 false) (pN Tryz.prog (oLoad 3 x18) w13) w13 fun x19 w14 =>
 pGd (gB x16 false) (pN Tryz.prog (oBin .gtr 3 (.tmp 19) (.const (.int .i64 4)) x19 (.int .i64 4)) w14) w14 fun x20 w15 =>
 pN Tryz.prog (oPick x16 (.bool true) x20) w15 fun x21 w16 =>
 pGd (gB x21 false) (pN Tryz.prog (oFld 23 x1 0) w16) w16 fun x23 w17 =>
 pGd (gB x21 false) (pN Tryz.prog (oLoad 3 x23) w17) w17 fun x24 w18 =>
 pGd (gB x21 false) (pN Tryz.prog (oBin .gtr 3 (.tmp 24) (.const (.int .i64 4)) x24 (.int .i64 4)) w18) w18 fun x25 w19 =>
 pN Tryz.prog (oPick x21 (.bool true) x25) w19 fun x26 w20 =>
 pGd (gB x26 false) (pN Tryz.prog (oFld 23 x1 1) w20) w20 fun x28 w21 =>
 pGd (gB x26 false) (pN Tryz.prog (oLoad 3 x28) w21) w21 fun x29 w22 =>
 pGd (gB x26 false) (pN Tryz.prog (oFld 23 x1 0) w22) w22 fun x30 w23 =>
 pGd (gB x26 false) (pN Tryz.prog (oLoad 3 x30) w23) w23 fun x31 w24 =>
 pGd (gB x26 false) (pN Tryz.prog (oBin .sub 3 (.const (.int .i64 4)) (.tmp 31) (.int .i64 4) x31) w24) w24 fun x32 w25 =>
 pGd (gB x26 false) (pN Tryz.prog (oBin .gtr 3 (.tmp 29) (.tmp 32) x29 x32) w25) w25 fun x33 w26 =>
 pN Tryz.prog (oPick x26 (.bool true) x33) w26 fun x34 w27 =>
 pIf x34
 (Q (.tuple #[(.int .i64 0), (.int .i64 6)]) w27)
 (pN Tryz.prog (oFld 23 x1 2) w27 fun x35 w28 =>
 pN Tryz.prog (oLoad 3 x35) w28 fun x36 w29 =>
 pN Tryz.prog (oBin .mul 3 (.tmp 36) (.const (.int .i64 5)) x36 (.int .i64 5)) w29 fun x37 w30 =>
 pN Tryz.prog (oFld 23 x1 1) w30 fun x38 w31 =>
 pN Tryz.prog (oLoad 3 x38) w31 fun x39 w32 =>
 pN Tryz.prog (oBin .add 3 (.tmp 37) (.tmp 39) x37 x39) w32 fun x40 w33 =>
 pN Tryz.prog (oBin .mul 3 (.tmp 40) (.const (.int .i64 9)) x40 (.int .i64 9)) w33 fun x41 w34 =>
 pN Tryz.prog (oFld 23 x1 0) w34 fun x42 w35 =>
 pN Tryz.prog (oLoad 3 x42) w35 fun x43 w36 =>
 pN Tryz.prog (oBin .add 3 (.tmp 41) (.tmp 43) x41 x43) w36 fun x44 w37 =>
 Q (.tuple #[x44, (.int .i64 0)]) w37)
theorem state_PropsByte.calls [Pan] {x0 : Value} {w : World} {Q : Value → World → Prop} (h : state_PropsByte.F x0 w Q) : Calls Tryz.prog 45 #[x0] w (retP Q) := calls_lift mixed .z [x0] Tryz.func45 (by kernel_rfl) (by kernel_rfl) h

def state_State_Next.H : Hints := { cut := fun | 21 => some ([], 79228162514264337593543948384) | _ => none, loop := fun  | _ => ([], 0), order := fun | 19 => [(0, 0), (1, 1), (2, 3), (3, 7), (4, 15), (5, 31), (6, 63)] | _ => [] }
def state_State_Next.F [Pan] (x0 x1 : Value) (w : World) (Q : Value → World → Prop) : Prop :=
 pN Tryz.prog (oBox 100 x0) w fun x2 w1 =>
 pN Tryz.prog (oBox 48 x1) w1 fun x3 w2 =>
 pN Tryz.prog (oAlloc 100) w2 fun x4 w3 =>
 pN Tryz.prog (oLoad 100 x2) w3 fun x7 w4 =>
 pN Tryz.prog (oCall 135 [x7]) w4 fun x8 w5 =>
 pN Tryz.prog (oUn .not x8) w5 fun x9 w6 =>
 pIf x9
 (pN Tryz.prog (oBuild 100 []) w6 fun x10 w7 =>
 pN Tryz.prog (oStore 100 x4 x10) w7 fun _ w8 =>
 pL Tryz.prog (oRes 100 x4) w8 fun r4 =>
 Q (.tuple #[r4, (.int .i64 7)]) w8)
 (∃ I21 : World → Prop,
 (pN Tryz.prog (oFld 48 x3 0) w6 fun x11 w9 =>
 pN Tryz.prog (oLoad 3 x11) w9 fun x12 w10 =>
 pN Tryz.prog (oBin .eql 3 (.tmp 12) (.const (.int .i64 1)) x12 (.int .i64 1)) w10 fun x15 w11 =>
 pIf x15
 (pN Tryz.prog (oFld 100 x2 0) w11 fun x16 w12 =>
 pN Tryz.prog (oLoad 3 x16) w12 fun x17 w13 =>
 pN Tryz.prog (oIdx 234 (.pointer (some ⟨0, 0, none⟩)) x17) w13 fun x18 w14 =>
 pN Tryz.prog (oLoad 3 x18) w14 fun x19 w15 =>
 pN Tryz.prog (oFld 100 x2 0) w15 fun x20 w16 =>
 pN Tryz.prog (oStore 3 x20 x19) w16 fun _ w17 =>
 I21 w17)
 (pN Tryz.prog (oBin .eql 3 (.tmp 12) (.const (.int .i64 4)) x12 (.int .i64 4)) w11 fun x22 w18 =>
 pIf x22
 (pN Tryz.prog (oFld 100 x2 0) w18 fun x23 w19 =>
 pN Tryz.prog (oLoad 3 x23) w19 fun x24 w20 =>
 pN Tryz.prog (oIdx 234 (.pointer (some ⟨1, 0, none⟩)) x24) w20 fun x25 w21 =>
 pN Tryz.prog (oLoad 3 x25) w21 fun x26 w22 =>
 pN Tryz.prog (oFld 100 x2 0) w22 fun x27 w23 =>
 pN Tryz.prog (oStore 3 x27 x26) w23 fun _ w24 =>
 I21 w24)
 (pN Tryz.prog (oBin .eql 3 (.tmp 12) (.const (.int .i64 2)) x12 (.int .i64 2)) w18 fun x29 w25 =>
 pIf x29
 (pN Tryz.prog (oFld 48 x3 2) w25 fun x30 w26 =>
 pN Tryz.prog (oLoad 3 x30) w26 fun x31 w27 =>
 pN Tryz.prog (oCall 136 [x31]) w27 fun x32 w28 =>
 pN Tryz.prog (oUn .not x32) w28 fun x33 w29 =>
 pGd (gB x33 false) (pN Tryz.prog (oFld 48 x3 3) w29) w29 fun x35 w30 =>
 pGd (gB x33 false) (pN Tryz.prog (oLoad 3 x35) w30) w30 fun x36 w31 =>
 pGd (gB x33 false) (pN Tryz.prog (oCall 137 [x36]) w31) w31 fun x37 w32 =>
 pGd (gB x33 false) (pN Tryz.prog (oUn .not x37) w32) w32 fun x38 w33 =>
 pN Tryz.prog (oPick x33 (.bool true) x38) w33 fun x39 w34 =>
 pIf x39
 (pN Tryz.prog (oBuild 100 []) w34 fun x40 w35 =>
 pN Tryz.prog (oStore 100 x4 x40) w35 fun _ w36 =>
 pL Tryz.prog (oRes 100 x4) w36 fun r4 =>
 Q (.tuple #[r4, (.int .i64 7)]) w36)
 (pN Tryz.prog (oFld 100 x2 0) w34 fun x41 w37 =>
 pN Tryz.prog (oLoad 3 x41) w37 fun x42 w38 =>
 pN Tryz.prog (oIdx 234 (.pointer (some ⟨2, 0, none⟩)) x42) w38 fun x43 w39 =>
 pN Tryz.prog (oLoad 3 x43) w39 fun x44 w40 =>
 pN Tryz.prog (oFld 100 x2 0) w40 fun x45 w41 =>
 pN Tryz.prog (oStore 3 x45 x44) w41 fun _ w42 =>
 pN Tryz.prog (oFld 48 x3 3) w42 fun x46 w43 =>
 pN Tryz.prog (oLoad 3 x46) w43 fun x47 w44 =>
 pN Tryz.prog (oFld 100 x2 1) w44 fun x48 w45 =>
 pN Tryz.prog (oIdx 67 x48 (.int .i64 0)) w45 fun x49 w46 =>
 pN Tryz.prog (oLoad 3 x49) w46 fun x50 w47 =>
 pN Tryz.prog (oFld 100 x2 1) w47 fun x51 w48 =>
 pN Tryz.prog (oIdx 67 x51 (.int .i64 1)) w48 fun x52 w49 =>
 pN Tryz.prog (oLoad 3 x52) w49 fun x53 w50 =>
 pN Tryz.prog (oFld 100 x2 1) w50 fun x54 w51 =>
 pN Tryz.prog (oIdx 67 x54 (.int .i64 2)) w51 fun x55 w52 =>
 pN Tryz.prog (oLoad 3 x55) w52 fun x56 w53 =>
 pN Tryz.prog (oBuild 67 [(0, x47), (1, x50), (2, x53), (3, x56)]) w53 fun x57 w54 =>
 pN Tryz.prog (oFld 100 x2 1) w54 fun x58 w55 =>
 pN Tryz.prog (oStore 67 x58 x57) w55 fun _ w56 =>
 I21 w56))
 (pN Tryz.prog (oBin .eql 3 (.tmp 12) (.const (.int .i64 3)) x12 (.int .i64 3)) w25 fun x60 w57 =>
 pIf x60
 (pN Tryz.prog (oFld 48 x3 2) w57 fun x61 w58 =>
 pN Tryz.prog (oLoad 3 x61) w58 fun x62 w59 =>
 pN Tryz.prog (oCall 136 [x62]) w59 fun x63 w60 =>
 pN Tryz.prog (oUn .not x63) w60 fun x64 w61 =>
 pGd (gB x64 false) (pN Tryz.prog (oFld 48 x3 3) w61) w61 fun x66 w62 =>
 pGd (gB x64 false) (pN Tryz.prog (oLoad 3 x66) w62) w62 fun x67 w63 =>
 pGd (gB x64 false) (pN Tryz.prog (oBin .lss 3 (.tmp 67) (.const (.int .i64 0)) x67 (.int .i64 0)) w63) w63 fun x68 w64 =>
 pN Tryz.prog (oPick x64 (.bool true) x68) w64 fun x69 w65 =>
 pGd (gB x69 false) (pN Tryz.prog (oFld 48 x3 3) w65) w65 fun x71 w66 =>
 pGd (gB x69 false) (pN Tryz.prog (oLoad 3 x71) w66) w66 fun x72 w67 =>
 pGd (gB x69 false) (pN Tryz.prog (oBin .gtr 3 (.tmp 72) (.const (.int .i64 3)) x72 (.int .i64 3)) w67) w67 fun x73 w68 =>
 pN Tryz.prog (oPick x69 (.bool true) x73) w68 fun x74 w69 =>
 pIf x74
 (pN Tryz.prog (oBuild 100 []) w69 fun x75 w70 =>
 pN Tryz.prog (oStore 100 x4 x75) w70 fun _ w71 =>
 pL Tryz.prog (oRes 100 x4) w71 fun r4 =>
 Q (.tuple #[r4, (.int .i64 7)]) w71)
 (pN Tryz.prog (oFld 100 x2 0) w69 fun x76 w72 =>
 pN Tryz.prog (oLoad 3 x76) w72 fun x77 w73 =>
 pN Tryz.prog (oIdx 234 (.pointer (some ⟨3, 0, none⟩)) x77) w73 fun x78 w74 =>
 pN Tryz.prog (oLoad 3 x78) w74 fun x79 w75 =>
 pN Tryz.prog (oFld 100 x2 0) w75 fun x80 w76 =>
 pN Tryz.prog (oStore 3 x80 x79) w76 fun _ w77 =>
 pN Tryz.prog (oFld 48 x3 3) w77 fun x81 w78 =>
 pN Tryz.prog (oLoad 3 x81) w78 fun x82 w79 =>
 pN Tryz.prog (oFld 100 x2 1) w79 fun x83 w80 =>
 pN Tryz.prog (oIdx 67 x83 x82) w80 fun x84 w81 =>
 pN Tryz.prog (oLoad 3 x84) w81 fun x85 w82 =>
 pDr w82 fun w83 =>
 pA Tryz.prog (oFld 100 x2 1) fun x86 =>
 pA Tryz.prog (oSl 67 x86 (some (.int .i64 1)) none none) fun x87 =>
 pA Tryz.prog (oFld 100 x2 1) fun x88 =>
 pA Tryz.prog (oFld 48 x3 3) fun x89 =>
 pL Tryz.prog (oLoad 3 x89) w83 fun x90 =>
 pA Tryz.prog (oSl 67 x88 none (some x90) none) fun x91 =>
 pN Tryz.prog (oBi .copy #[217, 217] 3 [false, false] [x87, x91]) w83 fun _ w84 =>
 (True) ∧ (pN Tryz.prog (oFld 100 x2 1) w84 fun x94 w85 =>
 pN Tryz.prog (oIdx 67 x94 (.int .i64 0)) w85 fun x95 w86 =>
 pN Tryz.prog (oStore 3 x95 x85) w86 fun _ w87 =>
 I21 w87)))
 (pN Tryz.prog (oBuild 100 []) w57 fun x13 w88 =>
 pN Tryz.prog (oStore 100 x4 x13) w88 fun _ w89 =>
 pL Tryz.prog (oRes 100 x4) w89 fun r4 =>
 Q (.tuple #[r4, (.int .i64 6)]) w89))))) ∧
 ∀ (_j21 : Env) (w90 : World), I21 w90 →
 pN Tryz.prog (oLoad 100 x2) w90 fun x96 w91 =>
 pN Tryz.prog (oStore 100 x4 x96) w91 fun _ w92 =>
 pL Tryz.prog (oRes 100 x4) w92 fun r4 =>
 Q (.tuple #[r4, (.int .i64 0)]) w92)
theorem state_State_Next.calls [Pan] {x0 x1 : Value} {w : World} {Q : Value → World → Prop} (h : state_State_Next.F x0 x1 w Q) : Calls Tryz.prog 92 #[x0, x1] w (retP Q) := calls_lift mixed state_State_Next.H [x0, x1] Tryz.func92 (by kernel_rfl) (by kernel_rfl) h

def state_State_right.H : Hints := { cut := fun  | _ => none, loop := fun | 2 => ([7], 16276) | _ => ([], 0), order := fun  | _ => [] }
def state_State_right.F [Pan] (x0 : Value) (w : World) (Q : Value → World → Prop) : Prop :=
 pN Tryz.prog (oBox 100 x0) w fun x1 w1 =>
 pN Tryz.prog (oFld 100 x1 1) w1 fun x5 w2 =>
 pN Tryz.prog (oLoad 67 x5) w2 fun x6 w3 =>
 ∃ (L2 : Value → World → Prop) (m2 : Value → World → Nat),
 L2 (.int .i64 0) w3 ∧
 ∀ (_k2 : Env) (v7l2 : Value) (w4 : World), L2 v7l2 w4 →
 pN Tryz.prog (oBin .lss 3 (.tmp 7) (.const (.int .i64 4)) v7l2 (.int .i64 4)) w4 fun x8 w5 =>
 pIf x8
 (pN Tryz.prog (oIndex 67 x6 v7l2) w5 fun x9 w6 =>
 pN Tryz.prog (oCall 137 [x9]) w6 fun x11 w7 =>
 pN Tryz.prog (oUn .not x11) w7 fun x12 w8 =>
 pIf x12
 (Q (.bool false) w8)
 (pN Tryz.prog (oBin .add 3 (.tmp 7) (.const (.int .i64 1)) v7l2 (.int .i64 1)) w8 fun x13 w9 =>
 (L2 x13 w9 ∧ m2 x13 w9 < m2 v7l2 w4)))
 (pN Tryz.prog (oFld 100 x1 0) w5 fun x14 w10 =>
 pN Tryz.prog (oLoad 3 x14) w10 fun x15 w11 =>
 pN Tryz.prog (oBin .geq 3 (.tmp 15) (.const (.int .i64 0)) x15 (.int .i64 0)) w11 fun x16 w12 =>
 pGd (gB x16 true) (pN Tryz.prog (oFld 100 x1 0) w12) w12 fun x18 w13 =>
 pGd (gB x16 true) (pN Tryz.prog (oLoad 3 x18) w13) w13 fun x19 w14 =>
 pGd (gB x16 true) (pN Tryz.prog (oBin .lss 3 (.tmp 19) (.const (.int .i64 12)) x19 (.int .i64 12)) w14) w14 fun x20 w15 =>
 pN Tryz.prog (oPick x16 x20 (.bool false)) w15 fun x21 w16 =>
 Q x21 w16)
theorem state_State_right.calls [Pan] {x0 : Value} {w : World} {Q : Value → World → Prop} (h : state_State_right.F x0 w Q) : Calls Tryz.prog 135 #[x0] w (retP Q) := calls_lift mixed state_State_right.H [x0] Tryz.func135 (by kernel_rfl) (by kernel_rfl) h

def state_isLen.F [Pan] (x0 : Value) (w : World) (Q : Value → World → Prop) : Prop :=
 pN Tryz.prog (oBin .geq 3 (.tmp 3) (.const (.int .i64 2)) x0 (.int .i64 2)) w fun x4 w1 =>
 pGd (gB x4 true) (pN Tryz.prog (oMv x0) w1) w1 fun x6 w2 =>
 pGd (gB x4 true) (pN Tryz.prog (oBin .leq 3 (.tmp 6) (.const (.int .i64 273)) x6 (.int .i64 273)) w2) w2 fun x7 w3 =>
 pN Tryz.prog (oPick x4 x7 (.bool false)) w3 fun x8 w4 =>
 Q x8 w4
theorem state_isLen.calls [Pan] {x0 : Value} {w : World} {Q : Value → World → Prop} (h : state_isLen.F x0 w Q) : Calls Tryz.prog 136 #[x0] w (retP Q) := calls_lift mixed .z [x0] Tryz.func136 (by kernel_rfl) (by kernel_rfl) h

def state_isDist.F [Pan] (x0 : Value) (w : World) (Q : Value → World → Prop) : Prop :=
 pN Tryz.prog (oBin .geq 3 (.tmp 3) (.const (.int .i64 1)) x0 (.int .i64 1)) w fun x4 w1 =>
 pGd (gB x4 true) (pN Tryz.prog (oMv x0) w1) w1 fun x6 w2 =>
 pGd (gB x4 true) (pN Tryz.prog (oBin .leq 3 (.tmp 6) (.const (.int .i64 4294967295)) x6 (.int .i64 4294967295)) w2) w2 fun x7 w3 =>
 pN Tryz.prog (oPick x4 x7 (.bool false)) w3 fun x8 w4 =>
 Q x8 w4
theorem state_isDist.calls [Pan] {x0 : Value} {w : World} {Q : Value → World → Prop} (h : state_isDist.F x0 w Q) : Calls Tryz.prog 137 #[x0] w (retP Q) := calls_lift mixed .z [x0] Tryz.func137 (by kernel_rfl) (by kernel_rfl) h

def state_State_Literal.F [Pan] (x0 : Value) (w : World) (Q : Value → World → Prop) : Prop :=
 pN Tryz.prog (oBox 100 x0) w fun x1 w1 =>
 pN Tryz.prog (oFld 100 x1 0) w1 fun x3 w2 =>
 pN Tryz.prog (oLoad 3 x3) w2 fun x4 w3 =>
 pN Tryz.prog (oBin .geq 3 (.tmp 4) (.const (.int .i64 0)) x4 (.int .i64 0)) w3 fun x5 w4 =>
 pGd (gB x5 true) (pN Tryz.prog (oFld 100 x1 0) w4) w4 fun x7 w5 =>
 pGd (gB x5 true) (pN Tryz.prog (oLoad 3 x7) w5) w5 fun x8 w6 =>
 pGd (gB x5 true) (pN Tryz.prog (oBin .lss 3 (.tmp 8) (.const (.int .i64 7)) x8 (.int .i64 7)) w6) w6 fun x9 w7 =>
 pN Tryz.prog (oPick x5 x9 (.bool false)) w7 fun x10 w8 =>
 Q x10 w8
theorem state_State_Literal.calls [Pan] {x0 : Value} {w : World} {Q : Value → World → Prop} (h : state_State_Literal.F x0 w Q) : Calls Tryz.prog 144 #[x0] w (retP Q) := calls_lift mixed .z [x0] Tryz.func144 (by kernel_rfl) (by kernel_rfl) h

def state_Range.F [Pan] (x0 : Value) (w : World) (Q : Value → World → Prop) : Prop :=
 pN Tryz.prog (oBin .lss 3 (.tmp 6) (.const (.int .i64 0)) x0 (.int .i64 0)) w fun x7 w1 =>
 pGd (gB x7 false) (pN Tryz.prog (oMv x0) w1) w1 fun x9 w2 =>
 pGd (gB x7 false) (pN Tryz.prog (oBin .gtr 3 (.tmp 9) (.const (.int .i64 63)) x9 (.int .i64 63)) w2) w2 fun x10 w3 =>
 pN Tryz.prog (oPick x7 (.bool true) x10) w3 fun x11 w4 =>
 pIf x11
 (Q (.tuple #[(.int .i64 0), (.int .i64 0), (.int .i64 7)]) w4)
 (pN Tryz.prog (oBin .lss 3 (.tmp 12) (.const (.int .i64 4)) x0 (.int .i64 4)) w4 fun x13 w5 =>
 pIf x13
 (pN Tryz.prog (oBin .add 3 (.tmp 14) (.const (.int .i64 1)) x0 (.int .i64 1)) w5 fun x15 w6 =>
 Q (.tuple #[x15, (.int .i64 0), (.int .i64 0)]) w6)
 (pN Tryz.prog (oBin .quo 3 (.tmp 16) (.const (.int .i64 2)) x0 (.int .i64 2)) w5 fun x17 w7 =>
 pN Tryz.prog (oBin .sub 3 (.tmp 17) (.const (.int .i64 1)) x17 (.int .i64 1)) w7 fun x18 w8 =>
 pN Tryz.prog (oBin .and 3 (.tmp 19) (.const (.int .i64 1)) x0 (.int .i64 1)) w8 fun x20 w9 =>
 pN Tryz.prog (oBin .or 3 (.const (.int .i64 2)) (.tmp 20) (.int .i64 2) x20) w9 fun x21 w10 =>
 pN Tryz.prog (oBin .shl 3 (.tmp 21) (.tmp 22) x21 x18) w10 fun x23 w11 =>
 pN Tryz.prog (oBin .add 3 (.tmp 23) (.const (.int .i64 1)) x23 (.int .i64 1)) w11 fun x24 w12 =>
 Q (.tuple #[x24, x18, (.int .i64 0)]) w12))
theorem state_Range.calls [Pan] {x0 : Value} {w : World} {Q : Value → World → Prop} (h : state_Range.F x0 w Q) : Calls Tryz.prog 146 #[x0] w (retP Q) := calls_lift mixed .z [x0] Tryz.func146 (by kernel_rfl) (by kernel_rfl) h

end Go.Proofs.YtbgnnjfpiblkmaaGreatDoor

namespace Go.Proofs.YtbgnnjfpiblkmaaGreatDoor
open Go Go.RowKit Go.ChangeShapes Go.Deep

theorem bulk_pos {H : Type} (d : DataW H) : 1 ≤ Rows.uptoBulk d := by
  cases d with
  | lit l => cases l <;> simp [Rows.uptoBulk]
  | _ => simp [Rows.uptoBulk]
theorem bulk_mem {H : Type} {d : DataW H} : ∀ {l : List (DataW H)}, d ∈ l → Rows.uptoBulk d ≤ Rows.uptoBulkAll l
  | [], h => by cases h
  | x :: r, h => by
    simp only [Rows.uptoBulkAll]
    rcases List.mem_cons.1 h with rfl | h
    · omega
    · have := bulk_mem h; omega
theorem bulk_length {H : Type} : ∀ (l : List (DataW H)), l.length ≤ Rows.uptoBulkAll l
  | [] => by simp [Rows.uptoBulkAll]
  | x :: r => by have := bulk_pos x; have := bulk_length r; simp only [Rows.uptoBulkAll, List.length_cons]; omega
theorem bulk_small {H : Type} {ds : List (DataW H)} (h : Rows.uptoSmall H ds = true) : ∀ d ∈ ds, Rows.uptoBulk d ≤ 1048576 := by
  intro d hd
  have h1 : Rows.uptoBulkAll ds ≤ 1048576 := of_decide_eq_true h
  have := bulk_mem hd
  omega

theorem weights_all {H : Type} {P : Program} {e : TypeId} {d : DataW H} {n : Nat} : ∀ {l : List (DataW H)}, d ∈ l → n ∈ d.weights P e → n ∈ DataW.weightsAll P e l
  | [], h, _ => by cases h
  | x :: r, h, hn => by
    simp only [DataW.weightsAll, List.mem_append]
    rcases List.mem_cons.1 h with rfl | h
    · exact .inl hn
    · exact .inr (weights_all h hn)

structure Opn (P : Program) (W : World) (t : TypeId) {β : Type} (enc : β → List Value) (ok : β → Nat → Prop) : Prop where
  get : ∀ {H : Type} (en : TypeId × Value → H) (fuel : Nat) (cs : List Value) (x : DataW H × List MemPlace),
    DataW.trod en P W 0 (fun _ => true) true fuel t cs = some x → (∀ n ∈ x.1.weights P t, n ≤ reachBytes) → ∃ b, cs = enc b ∧ ok b (Rows.uptoBulk x.1)

section
variable {P : Program} {W : World} {t : TypeId}

theorem trod_pos {H : Type} {en : TypeId × Value → H} {fuel : Nat} {cs : List Value} {x : DataW H × List MemPlace} (h : DataW.trod en P W 0 (fun _ => true) true fuel t cs = some x) : ∃ n, fuel = n + 1 := by
  cases fuel with
  | zero => simp [DataW.trod] at h
  | succ n => exact ⟨n, rfl⟩

theorem opn_int {k : IntKind} (ht : P.underlying t = some (.int k)) : Opn P W t (fun n : Int => [.int k n]) (fun n _ => (Lit.int k n).wf = true) := by
  refine ⟨fun {H} en fuel cs x hx _ => ?_⟩
  obtain ⟨n, rfl⟩ := trod_pos hx
  unfold DataW.trod at hx
  rw [ht] at hx
  split at hx <;> simp_all
theorem Opn.mono {β : Type} {enc : β → List Value} {ok ok' : β → Nat → Prop} (h : Opn P W t enc ok) (hm : ∀ b k, ok b k → ok' b k) : Opn P W t enc ok' := by
  refine ⟨fun {H} en fuel cs x hx hw => ?_⟩
  obtain ⟨b, hb, hk⟩ := h.get en fuel cs x hx hw
  exact ⟨b, hb, hm _ _ hk⟩
theorem opn_i64 (ht : P.underlying t = some (.int .i64)) : Opn P W t (fun n : Int => [.int .i64 n]) (fun n _ => -9223372036854775808 ≤ n ∧ n < 9223372036854775808) :=
  Opn.mono (opn_int ht) fun n _ h => by
    simp [Lit.wf, IntKind.min, IntKind.max, IntKind.signed, IntKind.bits] at h
    omega
theorem opn_u8 (ht : P.underlying t = some (.int .u8)) : Opn P W t (fun n : UInt8 => [bv n]) (fun _ _ => True) := by
  refine ⟨fun {H} en fuel cs x hx hw => ?_⟩
  obtain ⟨n, rfl, h⟩ := (opn_int ht).get en fuel cs x hx hw
  simp [Lit.wf, IntKind.min, IntKind.max, IntKind.signed, IntKind.bits] at h
  refine ⟨UInt8.ofNat n.toNat, ?_, trivial⟩
  unfold bv
  simp only [UInt8.toNat_ofNat', List.cons.injEq, Value.int.injEq, true_and, and_true]
  omega
theorem opn_slice {β : Type} {C : Cd β} {ok : β → Nat → Prop} (ht : P.underlying t = some (.slice C.e)) (hs : P.cellsOf C.e = C.size) (hb : P.bytesOf C.e = C.bytes) (h : Opn P W C.e C.enc ok) :
    Opn P W t (fun p : Sl × List β => [.slice p.1.a p.2.length p.1.c])
      (fun p k => RdP C (old W) p.1 p.2 ∧ p.2.length * C.bytes ≤ reachBytes ∧ p.2.length + 1 ≤ k ∧ ∀ b ∈ p.2, ∃ k', k' ≤ k ∧ ok b k') := by
  refine ⟨fun {H} en fuel cs x hx hw => ?_⟩
  rcases open_slice ht hx with ⟨rfl, rfl⟩ | ⟨a, len, cap, m, n, D, Pl, rfl, _, hl, hm, hmm, rfl, hel⟩
  · exact ⟨(⟨none, 0⟩, []), rfl, ⟨RdA.old Rd.nil⟩, by simp, by simp [Rows.uptoBulk], by simp⟩
  · simp only [if_true] at hmm
    subst hmm
    have hwt : ∀ i, i < len → ∀ n ∈ (D i).weights P C.e, n ≤ reachBytes := by
      intro i hi n hn
      refine hw n ?_
      simp only [DataW.weights, ht, List.mem_cons, List.mem_append]
      exact .inr (.inl (weights_all (List.mem_map.2 ⟨i, by simpa using hi, rfl⟩) hn))
    have hD : ∀ i, i < len → ∃ b, (W.cells? 0 (a.add (i * C.size)) C.size = some (C.enc b)) ∧ ok b (Rows.uptoBulk (D i)) := by
      intro i hi
      obtain ⟨cs', h1, h2⟩ := hel i (by omega)
      rw [hs] at h1
      obtain ⟨b, rfl, hk⟩ := h.get en n cs' _ h2 (hwt i hi)
      exact ⟨b, h1, hk⟩
    have hinh : Inhabited β := ⟨C.zero⟩
    obtain ⟨V, hV⟩ := choose_lt hD
    have hlen : ((List.range len).map V).length = len := by simp
    have hget : ∀ i, i < len → ((List.range len).map V)[i]? = some (V i) := by intro i hi; simp [hi]
    refine ⟨(⟨some a, m⟩, (List.range len).map V), by simp, ⟨RdA.old ?_⟩, ?_, ?_, ?_⟩
    · refine ⟨C.flat_len _, some a, m, rfl, by rw [hlen]; exact hl, fun h => by simp at h, fun a' ha j u hu => ?_⟩
      cases ha
      have hj : j < (C.flat ((List.range len).map V)).length := (List.getElem?_eq_some_iff.1 hu).1
      rw [C.flat_len, hlen] at hj
      have hpos : 0 < C.size := by
        rcases Nat.eq_zero_or_pos C.size with h0 | h0
        · rw [h0] at hj; omega
        · exact h0
      have hi : j / C.size < len := by
        rw [Nat.div_lt_iff_lt_mul hpos]; exact hj
      have hr : j % C.size < C.size := Nat.mod_lt _ hpos
      have e1 : j / C.size * C.size + j % C.size = j := by rw [Nat.mul_comm]; exact Nat.div_add_mod _ _
      have e2 := C.flat_get _ _ _ (hget _ hi)
      have e3 : (C.enc (V (j / C.size)))[j % C.size]? = some u := by
        rw [← e2, List.getElem?_take, if_pos hr, List.getElem?_drop, e1]
        exact hu
      obtain ⟨_, _, h3⟩ := World.cells?_some (hV _ hi).1
      have := h3 _ hr
      rw [Addr.add_add, e1] at this
      rw [this]; exact e3
    · simp only [hlen]
      have := hw ((((List.range len).map D).length + ((List.range (m - len)).map fun j => D (len + j)).length) * P.bytesOf C.e) (by
        simp only [DataW.weights, ht]
        exact List.mem_cons_self)
      simp only [List.length_map, List.length_range, hb] at this
      exact Nat.le_trans (Nat.mul_le_mul_right _ (Nat.le_add_right _ _)) this
    · simp only [hlen, Rows.uptoBulk]
      have := bulk_length ((List.range len).map D)
      simp only [List.length_map, List.length_range] at this
      omega
    · intro b hb
      simp only [List.mem_map, List.mem_range] at hb
      obtain ⟨i, hi, rfl⟩ := hb
      refine ⟨_, ?_, (hV i hi).2⟩
      have := bulk_mem (List.mem_map.2 ⟨i, by simpa using hi, rfl⟩ : D i ∈ (List.range len).map D)
      simp only [Rows.uptoBulk]
      omega

theorem opn_field {fs : Array Field} {H : Type} {en : TypeId × Value → H} {n : Nat} {cs : List Value} {xs : List (DataW H × List MemPlace)} (ht : P.underlying t = some (.struct fs))
    (hw : ∀ n ∈ (DataW.agg (xs.map (·.1))).weights P t, n ≤ reachBytes)
    (hf : ∀ (i : Nat) (f : Field), fs[i]? = some f → DataW.trod en P W 0 (fun _ => true) true n f.type ((cs.drop f.offset).take (P.cellsOf f.type)) = xs[i]?)
    (i ft off sz : Nat) (hi' : ∃ f, fs[i]? = some f ∧ f.type = ft ∧ f.offset = off) (hc : P.cellsOf ft = sz) (hl : i < xs.length) {β : Type} {enc : β → List Value} {ok : β → Nat → Prop} (h : Opn P W ft enc ok) :
    ∃ b, (cs.drop off).take sz = enc b ∧ ∃ k', k' ≤ Rows.uptoBulk (DataW.agg (xs.map (·.1))) ∧ ok b k' := by
  obtain ⟨f, hi, rfl, rfl⟩ := hi'
  subst hc
  have h1 := hf i f hi
  rw [List.getElem?_eq_getElem hl] at h1
  obtain ⟨b, hb, hk⟩ := h.get en n _ _ h1 fun m hm => hw m (by
    simp only [DataW.weights, ht]
    exact DataW.weights_mem_each (j := i) (t := f.type) (d := xs[i].1) (by simp [hi]) (by simp [hl]) m hm)
  refine ⟨b, hb, _, ?_, hk⟩
  have := bulk_mem (List.mem_map.2 ⟨xs[i], List.getElem_mem hl, rfl⟩ : xs[i].1 ∈ xs.map (·.1))
  simp only [Rows.uptoBulk]
  omega

theorem opn_arg {β : Type} {enc : β → List Value} {ok : β → Nat → Prop} (h : Opn P W t enc ok) {H : Type} {en : TypeId × Value → H} {v : Value} {d : DataW H} {p : List MemPlace} (hd : DataW.Trod en P W 0 (fun _ => true) true t v d p)
    (hw : ∀ n ∈ d.weights P t, n ≤ reachBytes) : ∃ b, v.cells.toList = enc b ∧ ok b (Rows.uptoBulk d) := by
  obtain ⟨fuel, hf⟩ := hd
  exact h.get en fuel _ _ hf hw
end

theorem walk_end {P : Program} {f : FuncId} {args : Array Value} {W : World} (h : Calls P f args W (retP fun v w => v = .bool true ∧ Sat W w [old W])) : Calls P f args W fun e W' => e = .returned (.bool true) ∧ Below W.heap.size W W' :=
  h.mono fun e w he => by
    cases e with
    | returned v => obtain ⟨rfl, hS⟩ := he; exact ⟨rfl, hS.below 0 rfl⟩
    | panicked c => exact he.elim
    | outgrown => exact he.elim

theorem cells_one {v u : Value} (h : v.cells.toList = [u]) (hv : v.oneCell' = true) : v = u := by
  cases v <;> first | (simp [Value.cells] at h; exact h) | cases hv
theorem cells_agg {cs : Array Value} {l : List Value} (h : (Value.agg cs).cells.toList = l) : Value.agg cs = .agg l.toArray := by
  simp only [Value.cells] at h
  rw [← h]

end Go.Proofs.YtbgnnjfpiblkmaaGreatDoor

namespace Go.Proofs.YtbgnnjfpiblkmaaGreatDoor
open Go Go.RowKit Go.ChangeShapes

instance sc_3 : Sc Tryz.prog 3 := ⟨Tryz.isAgg3, Tryz.sizeOf3⟩
instance sc_4 : Sc Tryz.prog 4 := ⟨Tryz.isAgg4, Tryz.sizeOf4⟩
instance sc_5 : Sc Tryz.prog 5 := ⟨Tryz.isAgg5, Tryz.sizeOf5⟩
instance sc_9 : Sc Tryz.prog 9 := ⟨Tryz.isAgg9, Tryz.sizeOf9⟩
instance sc_20 : Sc Tryz.prog 20 := ⟨Tryz.isAgg20, Tryz.sizeOf20⟩
instance ag_23 : Ag Tryz.prog 23 3 := ⟨Tryz.isAgg23, Tryz.sizeOf23⟩
instance sc_24 : Sc Tryz.prog 24 := ⟨Tryz.isAgg24, Tryz.sizeOf24⟩
instance sc_25 : Sc Tryz.prog 25 := ⟨Tryz.isAgg25, Tryz.sizeOf25⟩
instance sc_30 : Sc Tryz.prog 30 := ⟨Tryz.isAgg30, Tryz.sizeOf30⟩
instance ag_32 : Ag Tryz.prog 32 6 := ⟨Tryz.isAgg32, Tryz.sizeOf32⟩
instance sc_38 : Sc Tryz.prog 38 := ⟨Tryz.isAgg38, Tryz.sizeOf38⟩
instance sc_41 : Sc Tryz.prog 41 := ⟨Tryz.isAgg41, Tryz.sizeOf41⟩
instance ag_48 : Ag Tryz.prog 48 4 := ⟨Tryz.isAgg48, Tryz.sizeOf48⟩
instance sc_66 : Sc Tryz.prog 66 := ⟨Tryz.isAgg66, Tryz.sizeOf66⟩
instance ag_67 : Ag Tryz.prog 67 4 := ⟨Tryz.isAgg67, Tryz.sizeOf67⟩
instance ag_69 : Ag Tryz.prog 69 5 := ⟨Tryz.isAgg69, Tryz.sizeOf69⟩
instance sc_70 : Sc Tryz.prog 70 := ⟨Tryz.isAgg70, Tryz.sizeOf70⟩
instance sc_71 : Sc Tryz.prog 71 := ⟨Tryz.isAgg71, Tryz.sizeOf71⟩
instance ag_73 : Ag Tryz.prog 73 11 := ⟨Tryz.isAgg73, Tryz.sizeOf73⟩
instance sc_76 : Sc Tryz.prog 76 := ⟨Tryz.isAgg76, Tryz.sizeOf76⟩
instance sc_80 : Sc Tryz.prog 80 := ⟨Tryz.isAgg80, Tryz.sizeOf80⟩
instance sc_85 : Sc Tryz.prog 85 := ⟨Tryz.isAgg85, Tryz.sizeOf85⟩
instance sc_97 : Sc Tryz.prog 97 := ⟨Tryz.isAgg97, Tryz.sizeOf97⟩
instance ag_100 : Ag Tryz.prog 100 5 := ⟨Tryz.isAgg100, Tryz.sizeOf100⟩
instance sc_114 : Sc Tryz.prog 114 := ⟨Tryz.isAgg114, Tryz.sizeOf114⟩
instance sc_117 : Sc Tryz.prog 117 := ⟨Tryz.isAgg117, Tryz.sizeOf117⟩
instance ag_119 : Ag Tryz.prog 119 3 := ⟨Tryz.isAgg119, Tryz.sizeOf119⟩
instance ag_122 : Ag Tryz.prog 122 5 := ⟨Tryz.isAgg122, Tryz.sizeOf122⟩
instance sc_123 : Sc Tryz.prog 123 := ⟨Tryz.isAgg123, Tryz.sizeOf123⟩
instance sc_137 : Sc Tryz.prog 137 := ⟨Tryz.isAgg137, Tryz.sizeOf137⟩
instance ag_139 : Ag Tryz.prog 139 4 := ⟨Tryz.isAgg139, Tryz.sizeOf139⟩
instance ag_141 : Ag Tryz.prog 141 26 := ⟨Tryz.isAgg141, Tryz.sizeOf141⟩
instance sc_148 : Sc Tryz.prog 148 := ⟨Tryz.isAgg148, Tryz.sizeOf148⟩
instance sc_150 : Sc Tryz.prog 150 := ⟨Tryz.isAgg150, Tryz.sizeOf150⟩
instance ag_164 : Ag Tryz.prog 164 3 := ⟨Tryz.isAgg164, Tryz.sizeOf164⟩
instance sc_169 : Sc Tryz.prog 169 := ⟨Tryz.isAgg169, Tryz.sizeOf169⟩
instance ag_171 : Ag Tryz.prog 171 3 := ⟨Tryz.isAgg171, Tryz.sizeOf171⟩
instance ag_175 : Ag Tryz.prog 175 4 := ⟨Tryz.isAgg175, Tryz.sizeOf175⟩
instance sc_180 : Sc Tryz.prog 180 := ⟨Tryz.isAgg180, Tryz.sizeOf180⟩
instance ag_182 : Ag Tryz.prog 182 4 := ⟨Tryz.isAgg182, Tryz.sizeOf182⟩
instance sc_188 : Sc Tryz.prog 188 := ⟨Tryz.isAgg188, Tryz.sizeOf188⟩
instance ag_193 : Ag Tryz.prog 193 2 := ⟨Tryz.isAgg193, Tryz.sizeOf193⟩
instance sc_217 : Sc Tryz.prog 217 := ⟨Tryz.isAgg217, Tryz.sizeOf217⟩
instance ag_219 : Ag Tryz.prog 219 2 := ⟨Tryz.isAgg219, Tryz.sizeOf219⟩
instance ag_224 : Ag Tryz.prog 224 3 := ⟨Tryz.isAgg224, Tryz.sizeOf224⟩
instance ag_226 : Ag Tryz.prog 226 4 := ⟨Tryz.isAgg226, Tryz.sizeOf226⟩
instance sc_230 : Sc Tryz.prog 230 := ⟨Tryz.isAgg230, Tryz.sizeOf230⟩
instance ag_233 : Ag Tryz.prog 233 3 := ⟨Tryz.isAgg233, Tryz.sizeOf233⟩
instance ag_234 : Ag Tryz.prog 234 12 := ⟨Tryz.isAgg234, Tryz.sizeOf234⟩
instance ag_254 : Ag Tryz.prog 254 1 := ⟨Tryz.isAgg254, Tryz.sizeOf254⟩
instance ag_272 : Ag Tryz.prog 272 4 := ⟨Tryz.isAgg272, Tryz.sizeOf272⟩
instance sc_296 : Sc Tryz.prog 296 := ⟨Tryz.isAgg296, Tryz.sizeOf296⟩
instance ag_297 : Ag Tryz.prog 297 32 := ⟨Tryz.isAgg297, Tryz.sizeOf297⟩
instance ag_298 : Ag Tryz.prog 298 64 := ⟨Tryz.isAgg298, Tryz.sizeOf298⟩
instance zv_3 : Zv Tryz.prog 3 [(.int .i64 0)] := ⟨_, Tryz.zeroValue3, rfl⟩
instance zv_4 : Zv Tryz.prog 4 [(.bool false)] := ⟨_, Tryz.zeroValue4, rfl⟩
instance zv_5 : Zv Tryz.prog 5 [(bv 0)] := ⟨_, Tryz.zeroValue5, rfl⟩
instance zv_9 : Zv Tryz.prog 9 [(.string ⟨#[]⟩)] := ⟨_, Tryz.zeroValue9, rfl⟩
instance zv_20 : Zv Tryz.prog 20 [.nilIface] := ⟨_, Tryz.zeroValue20, rfl⟩
instance zv_23 : Zv Tryz.prog 23 [(.int .i64 0), (.int .i64 0), (.int .i64 0)] := ⟨_, Tryz.zeroValue23, rfl⟩
instance zv_24 : Zv Tryz.prog 24 [(.slice none 0 0)] := ⟨_, Tryz.zeroValue24, rfl⟩
instance zv_25 : Zv Tryz.prog 25 [(.pointer none)] := ⟨_, Tryz.zeroValue25, rfl⟩
instance zv_30 : Zv Tryz.prog 30 [(.slice none 0 0)] := ⟨_, Tryz.zeroValue30, rfl⟩
instance zv_32 : Zv Tryz.prog 32 [(.int .i64 0), (.slice none 0 0), (.int .i64 0), (.int .i64 0), (.int .i64 0), (.int .i64 0)] := ⟨_, Tryz.zeroValue32, rfl⟩
instance zv_38 : Zv Tryz.prog 38 [(.int .i64 0)] := ⟨_, Tryz.zeroValue38, rfl⟩
instance zv_41 : Zv Tryz.prog 41 [(.pointer none)] := ⟨_, Tryz.zeroValue41, rfl⟩
instance zv_48 : Zv Tryz.prog 48 [(.int .i64 0), (bv 0), (.int .i64 0), (.int .i64 0)] := ⟨_, Tryz.zeroValue48, rfl⟩
instance zv_66 : Zv Tryz.prog 66 [(.pointer none)] := ⟨_, Tryz.zeroValue66, rfl⟩
instance zv_67 : Zv Tryz.prog 67 [(.int .i64 0), (.int .i64 0), (.int .i64 0), (.int .i64 0)] := ⟨_, Tryz.zeroValue67, rfl⟩
instance zv_69 : Zv Tryz.prog 69 [(.int .i64 0), (.int .i64 0), (.int .i64 0), (.int .i64 0), (.int .i64 0)] := ⟨_, Tryz.zeroValue69, rfl⟩
instance zv_70 : Zv Tryz.prog 70 [(.map none)] := ⟨_, Tryz.zeroValue70, rfl⟩
instance zv_71 : Zv Tryz.prog 71 [(.pointer none)] := ⟨_, Tryz.zeroValue71, rfl⟩
instance zv_73 : Zv Tryz.prog 73 [(.int .i64 0), (.int .i64 0), (.int .i64 0), (.pointer none), (.int .i64 0), (.int .i64 0), (.int .i64 0), (.int .i64 0), (.int .i64 0), (.map none), (.pointer none)] := ⟨_, Tryz.zeroValue73, rfl⟩
instance zv_76 : Zv Tryz.prog 76 [(.pointer none)] := ⟨_, Tryz.zeroValue76, rfl⟩
instance zv_80 : Zv Tryz.prog 80 [(.slice none 0 0)] := ⟨_, Tryz.zeroValue80, rfl⟩
instance zv_85 : Zv Tryz.prog 85 [(.pointer none)] := ⟨_, Tryz.zeroValue85, rfl⟩
instance zv_97 : Zv Tryz.prog 97 [(.pointer none)] := ⟨_, Tryz.zeroValue97, rfl⟩
instance zv_100 : Zv Tryz.prog 100 [(.int .i64 0), (.int .i64 0), (.int .i64 0), (.int .i64 0), (.int .i64 0)] := ⟨_, Tryz.zeroValue100, rfl⟩
instance zv_114 : Zv Tryz.prog 114 [(.pointer none)] := ⟨_, Tryz.zeroValue114, rfl⟩
instance zv_117 : Zv Tryz.prog 117 [(.slice none 0 0)] := ⟨_, Tryz.zeroValue117, rfl⟩
instance zv_119 : Zv Tryz.prog 119 [(.pointer none), (.pointer none), (.slice none 0 0)] := ⟨_, Tryz.zeroValue119, rfl⟩
instance zv_122 : Zv Tryz.prog 122 [(.slice none 0 0), (.slice none 0 0), (.slice none 0 0), (.slice none 0 0), (bv 0)] := ⟨_, Tryz.zeroValue122, rfl⟩
instance zv_123 : Zv Tryz.prog 123 [(.pointer none)] := ⟨_, Tryz.zeroValue123, rfl⟩
instance zv_137 : Zv Tryz.prog 137 [(.pointer none)] := ⟨_, Tryz.zeroValue137, rfl⟩
instance zv_139 : Zv Tryz.prog 139 [(.pointer none), (.pointer none), (.pointer none), (.pointer none)] := ⟨_, Tryz.zeroValue139, rfl⟩
instance zv_141 : Zv Tryz.prog 141 [(.int .i64 0), (.int .i64 0), (.int .i64 0), (.int .i64 0), (.int .i64 0), (.int .i64 0), (.int .i64 0), (.int .i64 0), (.pointer none), (.pointer none), (.pointer none), (.pointer none), (.pointer none), (.pointer none), (.pointer none), (.pointer none), (.pointer none), (.pointer none), (.pointer none), (.pointer none), (.pointer none), (.pointer none), (.pointer none), (.pointer none), (.pointer none), (.pointer none)] := ⟨_, Tryz.zeroValue141, rfl⟩
instance zv_148 : Zv Tryz.prog 148 [(.int .u32 0)] := ⟨_, Tryz.zeroValue148, rfl⟩
instance zv_150 : Zv Tryz.prog 150 [(.pointer none)] := ⟨_, Tryz.zeroValue150, rfl⟩
instance zv_164 : Zv Tryz.prog 164 [(.slice none 0 0), (.int .u32 0), (.int .i64 0)] := ⟨_, Tryz.zeroValue164, rfl⟩
instance zv_169 : Zv Tryz.prog 169 [(.int .u64 0)] := ⟨_, Tryz.zeroValue169, rfl⟩
instance zv_171 : Zv Tryz.prog 171 [(.pointer none), (.pointer none), (.bool false)] := ⟨_, Tryz.zeroValue171, rfl⟩
instance zv_175 : Zv Tryz.prog 175 [(.int .i64 0), (.slice none 0 0), (.int .i64 0), (.int .i64 0)] := ⟨_, Tryz.zeroValue175, rfl⟩
instance zv_180 : Zv Tryz.prog 180 [(.pointer none)] := ⟨_, Tryz.zeroValue180, rfl⟩
instance zv_182 : Zv Tryz.prog 182 [(.pointer none), (.pointer none), (.bool false), (.bool false)] := ⟨_, Tryz.zeroValue182, rfl⟩
instance zv_188 : Zv Tryz.prog 188 [(.int .u64 0)] := ⟨_, Tryz.zeroValue188, rfl⟩
instance zv_193 : Zv Tryz.prog 193 [(.int .i64 0), (.slice none 0 0)] := ⟨_, Tryz.zeroValue193, rfl⟩
instance zv_217 : Zv Tryz.prog 217 [(.slice none 0 0)] := ⟨_, Tryz.zeroValue217, rfl⟩
instance zv_219 : Zv Tryz.prog 219 [(.int .i64 0), (.slice none 0 0)] := ⟨_, Tryz.zeroValue219, rfl⟩
instance zv_224 : Zv Tryz.prog 224 [(.int .i64 0), (.int .u32 0), (.int .u32 0)] := ⟨_, Tryz.zeroValue224, rfl⟩
instance zv_226 : Zv Tryz.prog 226 [(.slice none 0 0), (.int .i64 0), (.int .u32 0), (.int .u32 0)] := ⟨_, Tryz.zeroValue226, rfl⟩
instance zv_230 : Zv Tryz.prog 230 [(.pointer none)] := ⟨_, Tryz.zeroValue230, rfl⟩
instance zv_233 : Zv Tryz.prog 233 [(.pointer none), (.pointer none), (.bool false)] := ⟨_, Tryz.zeroValue233, rfl⟩
instance zv_234 : Zv Tryz.prog 234 [(.int .i64 0), (.int .i64 0), (.int .i64 0), (.int .i64 0), (.int .i64 0), (.int .i64 0), (.int .i64 0), (.int .i64 0), (.int .i64 0), (.int .i64 0), (.int .i64 0), (.int .i64 0)] := ⟨_, Tryz.zeroValue234, rfl⟩
instance zv_254 : Zv Tryz.prog 254 [(.slice none 0 0)] := ⟨_, Tryz.zeroValue254, rfl⟩
instance zv_272 : Zv Tryz.prog 272 [(.slice none 0 0), (.int .i64 0), (.int .i64 0), (.int .i64 0)] := ⟨_, Tryz.zeroValue272, rfl⟩
instance zv_296 : Zv Tryz.prog 296 [.nilFunc] := ⟨_, Tryz.zeroValue296, rfl⟩
instance zv_297 : Zv Tryz.prog 297 [(bv 0), (bv 0), (bv 0), (bv 0), (bv 0), (bv 0), (bv 0), (bv 0), (bv 0), (bv 0), (bv 0), (bv 0), (bv 0), (bv 0), (bv 0), (bv 0), (bv 0), (bv 0), (bv 0), (bv 0), (bv 0), (bv 0), (bv 0), (bv 0), (bv 0), (bv 0), (bv 0), (bv 0), (bv 0), (bv 0), (bv 0), (bv 0)] := ⟨_, Tryz.zeroValue297, rfl⟩
structure T_api_Props where
  LC : Int
  LP : Int
  PB : Int
def T_api_Props.zero : T_api_Props := ⟨0, 0, 0⟩
def T_api_Props.enc (b : T_api_Props) : List Value := [.int .i64 b.LC, .int .i64 b.LP, .int .i64 b.PB]
structure T_pithlaw15_Op where
  Kind : Int
  B : (Sl × List UInt8)
  N : Int
  Props : T_api_Props
def T_pithlaw15_Op.zero : T_pithlaw15_Op := ⟨0, (⟨none, 0⟩, []), 0, T_api_Props.zero⟩
def T_pithlaw15_Op.enc (b : T_pithlaw15_Op) : List Value := [.int .i64 b.Kind] ++ [.slice b.B.1.a b.B.2.length b.B.1.c] ++ [.int .i64 b.N] ++ b.Props.enc
structure T_api_Symbol where
  Kind : Int
  Byte : UInt8
  Len : Int
  Dist : Int
def T_api_Symbol.zero : T_api_Symbol := ⟨0, 0, 0, 0⟩
def T_api_Symbol.enc (b : T_api_Symbol) : List Value := [.int .i64 b.Kind, bv b.Byte, .int .i64 b.Len, .int .i64 b.Dist]
structure T_pithlaw15_Page where
  Symbols : (Sl × List T_api_Symbol)
  More : (Sl × List T_api_Symbol)
  Bytes : (Sl × List UInt8)
  On : (Sl × List UInt8)
  Mark : UInt8
def T_pithlaw15_Page.zero : T_pithlaw15_Page := ⟨(⟨none, 0⟩, []), (⟨none, 0⟩, []), (⟨none, 0⟩, []), (⟨none, 0⟩, []), 0⟩
def T_pithlaw15_Page.enc (b : T_pithlaw15_Page) : List Value := [.slice b.Symbols.1.a b.Symbols.2.length b.Symbols.1.c, .slice b.More.1.a b.More.2.length b.More.1.c, .slice b.Bytes.1.a b.Bytes.2.length b.Bytes.1.c, .slice b.On.1.a b.On.2.length b.On.1.c, bv b.Mark]
def cd_int : Cd Int := { e := 3, size := 1, bytes := 8, zero := 0, enc := fun b => [.int .i64 b], len := fun _ => rfl, one := by intro b u hu; simp only [List.mem_cons, List.not_mem_nil, or_false] at hu; subst hu; rfl }
instance bt_int : Bt cd_int 8 := ⟨rfl⟩
def cd_uint8 : Cd UInt8 := { e := 5, size := 1, bytes := 1, zero := 0, enc := fun b => [bv b], len := fun _ => rfl, one := by intro b u hu; simp only [List.mem_cons, List.not_mem_nil, or_false] at hu; subst hu; rfl }
instance bt_uint8 : Bt cd_uint8 1 := ⟨rfl⟩
def cd_api_Props : Cd T_api_Props := { e := 23, size := 3, bytes := 24, zero := T_api_Props.zero, enc := T_api_Props.enc, len := fun _ => rfl, one := by intro b u hu; simp only [T_api_Props.enc, T_api_Symbol.enc, T_pithlaw15_Op.enc, T_pithlaw15_Page.enc, List.mem_cons, List.mem_append, List.not_mem_nil, or_false] at hu; rcases hu with rfl|rfl|rfl <;> rfl }
instance bt_api_Props : Bt cd_api_Props 24 := ⟨rfl⟩
def cd_pithlaw15_Op : Cd T_pithlaw15_Op := { e := 32, size := 6, bytes := 64, zero := T_pithlaw15_Op.zero, enc := T_pithlaw15_Op.enc, len := fun _ => rfl, one := by intro b u hu; simp only [T_api_Props.enc, T_api_Symbol.enc, T_pithlaw15_Op.enc, T_pithlaw15_Page.enc, List.mem_cons, List.mem_append, List.not_mem_nil, or_false] at hu; repeat (first | (subst hu; rfl) | (rcases hu with hu | hu)) }
instance bt_pithlaw15_Op : Bt cd_pithlaw15_Op 64 := ⟨rfl⟩
def cd_api_Symbol : Cd T_api_Symbol := { e := 48, size := 4, bytes := 32, zero := T_api_Symbol.zero, enc := T_api_Symbol.enc, len := fun _ => rfl, one := by intro b u hu; simp only [T_api_Props.enc, T_api_Symbol.enc, T_pithlaw15_Op.enc, T_pithlaw15_Page.enc, List.mem_cons, List.mem_append, List.not_mem_nil, or_false] at hu; rcases hu with rfl|rfl|rfl|rfl <;> rfl }
instance bt_api_Symbol : Bt cd_api_Symbol 32 := ⟨rfl⟩
def cd_pithlaw15_Page : Cd T_pithlaw15_Page := { e := 122, size := 5, bytes := 104, zero := T_pithlaw15_Page.zero, enc := T_pithlaw15_Page.enc, len := fun _ => rfl, one := by intro b u hu; simp only [T_api_Props.enc, T_api_Symbol.enc, T_pithlaw15_Op.enc, T_pithlaw15_Page.enc, List.mem_cons, List.mem_append, List.not_mem_nil, or_false] at hu; rcases hu with rfl|rfl|rfl|rfl|rfl <;> rfl }
instance bt_pithlaw15_Page : Bt cd_pithlaw15_Page 104 := ⟨rfl⟩
instance row_24 : Row Tryz.prog 24 T_pithlaw15_Op cd_pithlaw15_Op := ⟨⟨(.agg #[(.int .i64 0), (.slice none 0 0), (.int .i64 0), (.int .i64 0), (.int .i64 0), (.int .i64 0)]), ⟨Tryz.underlying24, info_parts (by kernel_rfl), rfl, by decide⟩, rfl⟩, by decide⟩
instance row_30 : Row Tryz.prog 30 UInt8 cd_uint8 := ⟨⟨(.int .u8 0), ⟨Tryz.underlying30, info_parts (by kernel_rfl), rfl, by decide⟩, rfl⟩, by decide⟩
instance row_80 : Row Tryz.prog 80 T_api_Symbol cd_api_Symbol := ⟨⟨(.agg #[(.int .i64 0), (.int .u8 0), (.int .i64 0), (.int .i64 0)]), ⟨Tryz.underlying80, info_parts (by kernel_rfl), rfl, by decide⟩, rfl⟩, by decide⟩
instance row_117 : Row Tryz.prog 117 T_pithlaw15_Page cd_pithlaw15_Page := ⟨⟨(.agg #[(.slice none 0 0), (.slice none 0 0), (.slice none 0 0), (.slice none 0 0), (.int .u8 0)]), ⟨Tryz.underlying117, info_parts (by kernel_rfl), rfl, by decide⟩, rfl⟩, by decide⟩
instance row_217 : Row Tryz.prog 217 Int cd_int := ⟨⟨(.int .i64 0), ⟨Tryz.underlying217, info_parts (by kernel_rfl), rfl, by decide⟩, rfl⟩, by decide⟩
section
variable [Pan] {w : World} {K : Value → World → Prop} {J : Value → Prop}
instance fa_23_0 : FA Tryz.prog 23 0 0 := ⟨fun a w => by kernel_rfl⟩
instance fa_23_1 : FA Tryz.prog 23 1 1 := ⟨fun a w => by kernel_rfl⟩
instance fa_23_2 : FA Tryz.prog 23 2 2 := ⟨fun a w => by kernel_rfl⟩
instance fa_32_0 : FA Tryz.prog 32 0 0 := ⟨fun a w => by kernel_rfl⟩
instance fa_32_1 : FA Tryz.prog 32 1 1 := ⟨fun a w => by kernel_rfl⟩
instance fa_32_2 : FA Tryz.prog 32 2 2 := ⟨fun a w => by kernel_rfl⟩
instance fa_32_3 : FA Tryz.prog 32 3 3 := ⟨fun a w => by kernel_rfl⟩
instance fa_48_0 : FA Tryz.prog 48 0 0 := ⟨fun a w => by kernel_rfl⟩
instance fa_48_1 : FA Tryz.prog 48 1 1 := ⟨fun a w => by kernel_rfl⟩
instance fa_48_2 : FA Tryz.prog 48 2 2 := ⟨fun a w => by kernel_rfl⟩
instance fa_48_3 : FA Tryz.prog 48 3 3 := ⟨fun a w => by kernel_rfl⟩
instance fa_69_0 : FA Tryz.prog 69 0 0 := ⟨fun a w => by kernel_rfl⟩
instance fa_69_1 : FA Tryz.prog 69 1 1 := ⟨fun a w => by kernel_rfl⟩
instance fa_73_0 : FA Tryz.prog 73 0 0 := ⟨fun a w => by kernel_rfl⟩
instance fa_73_1 : FA Tryz.prog 73 1 3 := ⟨fun a w => by kernel_rfl⟩
instance fa_73_2 : FA Tryz.prog 73 2 4 := ⟨fun a w => by kernel_rfl⟩
instance fa_73_3 : FA Tryz.prog 73 3 9 := ⟨fun a w => by kernel_rfl⟩
instance fa_100_0 : FA Tryz.prog 100 0 0 := ⟨fun a w => by kernel_rfl⟩
instance fa_100_1 : FA Tryz.prog 100 1 1 := ⟨fun a w => by kernel_rfl⟩
instance fa_119_0 : FA Tryz.prog 119 0 0 := ⟨fun a w => by kernel_rfl⟩
instance fa_119_1 : FA Tryz.prog 119 1 1 := ⟨fun a w => by kernel_rfl⟩
instance fa_119_2 : FA Tryz.prog 119 2 2 := ⟨fun a w => by kernel_rfl⟩
instance fa_122_0 : FA Tryz.prog 122 0 0 := ⟨fun a w => by kernel_rfl⟩
instance fa_122_1 : FA Tryz.prog 122 1 1 := ⟨fun a w => by kernel_rfl⟩
instance fa_122_2 : FA Tryz.prog 122 2 2 := ⟨fun a w => by kernel_rfl⟩
instance fa_122_3 : FA Tryz.prog 122 3 3 := ⟨fun a w => by kernel_rfl⟩
instance fa_122_4 : FA Tryz.prog 122 4 4 := ⟨fun a w => by kernel_rfl⟩
instance fa_139_0 : FA Tryz.prog 139 0 0 := ⟨fun a w => by kernel_rfl⟩
instance fa_139_1 : FA Tryz.prog 139 1 1 := ⟨fun a w => by kernel_rfl⟩
instance fa_139_2 : FA Tryz.prog 139 2 2 := ⟨fun a w => by kernel_rfl⟩
instance fa_139_3 : FA Tryz.prog 139 3 3 := ⟨fun a w => by kernel_rfl⟩
instance fa_141_0 : FA Tryz.prog 141 0 0 := ⟨fun a w => by kernel_rfl⟩
instance fa_141_1 : FA Tryz.prog 141 1 3 := ⟨fun a w => by kernel_rfl⟩
instance fa_141_2 : FA Tryz.prog 141 2 8 := ⟨fun a w => by kernel_rfl⟩
instance fa_141_3 : FA Tryz.prog 141 3 9 := ⟨fun a w => by kernel_rfl⟩
instance fa_141_4 : FA Tryz.prog 141 4 10 := ⟨fun a w => by kernel_rfl⟩
instance fa_141_5 : FA Tryz.prog 141 5 11 := ⟨fun a w => by kernel_rfl⟩
instance fa_141_6 : FA Tryz.prog 141 6 12 := ⟨fun a w => by kernel_rfl⟩
instance fa_141_7 : FA Tryz.prog 141 7 13 := ⟨fun a w => by kernel_rfl⟩
instance fa_141_8 : FA Tryz.prog 141 8 14 := ⟨fun a w => by kernel_rfl⟩
instance fa_141_9 : FA Tryz.prog 141 9 15 := ⟨fun a w => by kernel_rfl⟩
instance fa_141_10 : FA Tryz.prog 141 10 19 := ⟨fun a w => by kernel_rfl⟩
instance fa_141_11 : FA Tryz.prog 141 11 23 := ⟨fun a w => by kernel_rfl⟩
instance fa_141_12 : FA Tryz.prog 141 12 24 := ⟨fun a w => by kernel_rfl⟩
instance fa_141_13 : FA Tryz.prog 141 13 25 := ⟨fun a w => by kernel_rfl⟩
instance fa_171_0 : FA Tryz.prog 171 0 0 := ⟨fun a w => by kernel_rfl⟩
instance fa_171_1 : FA Tryz.prog 171 1 1 := ⟨fun a w => by kernel_rfl⟩
instance fa_171_2 : FA Tryz.prog 171 2 2 := ⟨fun a w => by kernel_rfl⟩
instance fa_175_0 : FA Tryz.prog 175 0 0 := ⟨fun a w => by kernel_rfl⟩
instance fa_175_1 : FA Tryz.prog 175 1 1 := ⟨fun a w => by kernel_rfl⟩
instance fa_175_2 : FA Tryz.prog 175 2 2 := ⟨fun a w => by kernel_rfl⟩
instance fa_175_3 : FA Tryz.prog 175 3 3 := ⟨fun a w => by kernel_rfl⟩
instance fa_182_0 : FA Tryz.prog 182 0 0 := ⟨fun a w => by kernel_rfl⟩
instance fa_182_1 : FA Tryz.prog 182 1 1 := ⟨fun a w => by kernel_rfl⟩
instance fa_182_2 : FA Tryz.prog 182 2 2 := ⟨fun a w => by kernel_rfl⟩
instance fa_182_3 : FA Tryz.prog 182 3 3 := ⟨fun a w => by kernel_rfl⟩
instance fa_193_0 : FA Tryz.prog 193 0 0 := ⟨fun a w => by kernel_rfl⟩
instance fa_193_1 : FA Tryz.prog 193 1 1 := ⟨fun a w => by kernel_rfl⟩
instance fa_219_1 : FA Tryz.prog 219 1 1 := ⟨fun a w => by kernel_rfl⟩
instance fa_224_0 : FA Tryz.prog 224 0 0 := ⟨fun a w => by kernel_rfl⟩
instance fa_224_1 : FA Tryz.prog 224 1 1 := ⟨fun a w => by kernel_rfl⟩
instance fa_224_2 : FA Tryz.prog 224 2 2 := ⟨fun a w => by kernel_rfl⟩
instance fa_226_0 : FA Tryz.prog 226 0 0 := ⟨fun a w => by kernel_rfl⟩
instance fa_226_1 : FA Tryz.prog 226 1 1 := ⟨fun a w => by kernel_rfl⟩
instance fa_233_0 : FA Tryz.prog 233 0 0 := ⟨fun a w => by kernel_rfl⟩
instance fa_233_1 : FA Tryz.prog 233 1 1 := ⟨fun a w => by kernel_rfl⟩
instance fa_233_2 : FA Tryz.prog 233 2 2 := ⟨fun a w => by kernel_rfl⟩
instance fa_254_0 : FA Tryz.prog 254 0 0 := ⟨fun a w => by kernel_rfl⟩
instance fa_272_0 : FA Tryz.prog 272 0 0 := ⟨fun a w => by kernel_rfl⟩
instance fa_272_1 : FA Tryz.prog 272 1 1 := ⟨fun a w => by kernel_rfl⟩
instance fa_272_2 : FA Tryz.prog 272 2 2 := ⟨fun a w => by kernel_rfl⟩
instance fa_272_3 : FA Tryz.prog 272 3 3 := ⟨fun a w => by kernel_rfl⟩
instance tob_3_5 : ToB Tryz.prog 3 5 := ⟨fun _ k n => run_conv_int k Tryz.underlying3 Tryz.underlying5 n⟩
instance ofb_5_3 : OfB Tryz.prog 5 3 .i64 := ⟨fun _ k n => run_conv_int k Tryz.underlying5 Tryz.underlying3 n, fun n h1 h2 => wrap_i64 (by omega)⟩
instance ofb_5_148 : OfB Tryz.prog 5 148 .u32 := ⟨fun _ k n => run_conv_int k Tryz.underlying5 Tryz.underlying148 n, fun n h1 h2 => w_u32 (by omega)⟩
instance strt_30_9 : StrT Tryz.prog 30 9 cd_uint8 := ⟨⟨_, Tryz.underlying30, Tryz.underlying5⟩, Tryz.underlying9, rfl, fun _ => rfl⟩
instance tob_188_5 : ToB Tryz.prog 188 5 := ⟨fun _ k n => run_conv_int k Tryz.underlying188 Tryz.underlying5 n⟩
theorem pN_shl_3_u64_4 (xo yo : Operand) (a : Int) : pN Tryz.prog (oBin .shl 3 xo yo (.int .i64 a) (.int .u64 4)) w K = K (.int .i64 (IntKind.wrap .i64 (a * 16))) w := pN_shln 4 4 16 rfl (by decide) (by decide)
theorem pA_shl_3_u64_4 (xo yo : Operand) (a : Int) : pA Tryz.prog (oBin .shl 3 xo yo (.int .i64 a) (.int .u64 4)) J = J (.int .i64 (IntKind.wrap .i64 (a * 16))) := pA_shln 4 4 16 rfl (by decide) (by decide)
theorem pN_shl_148_u64_1 (xo yo : Operand) (a : Int) : pN Tryz.prog (oBin .shl 148 xo yo (.int .u32 a) (.int .u64 1)) w K = K (.int .u32 (IntKind.wrap .u32 (a * 2))) w := pN_shln 1 1 2 rfl (by decide) (by decide)
theorem pA_shl_148_u64_1 (xo yo : Operand) (a : Int) : pA Tryz.prog (oBin .shl 148 xo yo (.int .u32 a) (.int .u64 1)) J = J (.int .u32 (IntKind.wrap .u32 (a * 2))) := pA_shln 1 1 2 rfl (by decide) (by decide)
theorem pN_shl_148_u64_8 (xo yo : Operand) (a : Int) : pN Tryz.prog (oBin .shl 148 xo yo (.int .u32 a) (.int .u64 8)) w K = K (.int .u32 (IntKind.wrap .u32 (a * 256))) w := pN_shln 8 8 256 rfl (by decide) (by decide)
theorem pA_shl_148_u64_8 (xo yo : Operand) (a : Int) : pA Tryz.prog (oBin .shl 148 xo yo (.int .u32 a) (.int .u64 8)) J = J (.int .u32 (IntKind.wrap .u32 (a * 256))) := pA_shln 8 8 256 rfl (by decide) (by decide)
theorem pN_shr_3_u64_5 (xo yo : Operand) (a : Int) : pN Tryz.prog (oBin .shr 3 xo yo (.int .i64 a) (.int .u64 5)) w K = K (.int .i64 (a / 32)) w := pN_shrn 5 5 32 rfl (by decide) (by decide)
theorem pA_shr_3_u64_5 (xo yo : Operand) (a : Int) : pA Tryz.prog (oBin .shr 3 xo yo (.int .i64 a) (.int .u64 5)) J = J (.int .i64 (a / 32)) := pA_shrn 5 5 32 rfl (by decide) (by decide)
theorem pN_shr_148_u64_11 (xo yo : Operand) (a : Int) : pN Tryz.prog (oBin .shr 148 xo yo (.int .u32 a) (.int .u64 11)) w K = K (.int .u32 (a / 2048)) w := pN_shrn 11 11 2048 rfl (by decide) (by decide)
theorem pA_shr_148_u64_11 (xo yo : Operand) (a : Int) : pA Tryz.prog (oBin .shr 148 xo yo (.int .u32 a) (.int .u64 11)) J = J (.int .u32 (a / 2048)) := pA_shrn 11 11 2048 rfl (by decide) (by decide)
theorem pN_shr_148_u64_27 (xo yo : Operand) (a : Int) : pN Tryz.prog (oBin .shr 148 xo yo (.int .u32 a) (.int .u64 27)) w K = K (.int .u32 (a / 134217728)) w := pN_shrn 27 27 134217728 rfl (by decide) (by decide)
theorem pA_shr_148_u64_27 (xo yo : Operand) (a : Int) : pA Tryz.prog (oBin .shr 148 xo yo (.int .u32 a) (.int .u64 27)) J = J (.int .u32 (a / 134217728)) := pA_shrn 27 27 134217728 rfl (by decide) (by decide)
theorem pN_shr_188_u64_16 (xo yo : Operand) (a : Int) : pN Tryz.prog (oBin .shr 188 xo yo (.int .u64 a) (.int .u64 16)) w K = K (.int .u64 (a / 65536)) w := pN_shrn 16 16 65536 rfl (by decide) (by decide)
theorem pA_shr_188_u64_16 (xo yo : Operand) (a : Int) : pA Tryz.prog (oBin .shr 188 xo yo (.int .u64 a) (.int .u64 16)) J = J (.int .u64 (a / 65536)) := pA_shrn 16 16 65536 rfl (by decide) (by decide)
theorem pN_shr_188_u64_32 (xo yo : Operand) (a : Int) : pN Tryz.prog (oBin .shr 188 xo yo (.int .u64 a) (.int .u64 32)) w K = K (.int .u64 (a / 4294967296)) w := pN_shrn 32 32 4294967296 rfl (by decide) (by decide)
theorem pA_shr_188_u64_32 (xo yo : Operand) (a : Int) : pA Tryz.prog (oBin .shr 188 xo yo (.int .u64 a) (.int .u64 32)) J = J (.int .u64 (a / 4294967296)) := pA_shrn 32 32 4294967296 rfl (by decide) (by decide)
theorem pN_shr_188_u64_58 (xo yo : Operand) (a : Int) : pN Tryz.prog (oBin .shr 188 xo yo (.int .u64 a) (.int .u64 58)) w K = K (.int .u64 (a / 288230376151711744)) w := pN_shrn 58 58 288230376151711744 rfl (by decide) (by decide)
theorem pA_shr_188_u64_58 (xo yo : Operand) (a : Int) : pA Tryz.prog (oBin .shr 188 xo yo (.int .u64 a) (.int .u64 58)) J = J (.int .u64 (a / 288230376151711744)) := pA_shrn 58 58 288230376151711744 rfl (by decide) (by decide)
theorem pN_shr_188_u64_8 (xo yo : Operand) (a : Int) : pN Tryz.prog (oBin .shr 188 xo yo (.int .u64 a) (.int .u64 8)) w K = K (.int .u64 (a / 256)) w := pN_shrn 8 8 256 rfl (by decide) (by decide)
theorem pA_shr_188_u64_8 (xo yo : Operand) (a : Int) : pA Tryz.prog (oBin .shr 188 xo yo (.int .u64 a) (.int .u64 8)) J = J (.int .u64 (a / 256)) := pA_shrn 8 8 256 rfl (by decide) (by decide)
theorem pN_and_3_1 (xo yo : Operand) (a : Int) : pN Tryz.prog (oBin .and 3 xo yo (.int .i64 a) (.int .i64 1)) w K = K (.int .i64 (a % 2)) w := pN_andn 1 1 2 rfl rfl (by decide) (wrap_i64 (by omega))
theorem pA_and_3_1 (xo yo : Operand) (a : Int) : pA Tryz.prog (oBin .and 3 xo yo (.int .i64 a) (.int .i64 1)) J = J (.int .i64 (a % 2)) := pA_andn 1 1 2 rfl rfl (by decide) (wrap_i64 (by omega))
theorem run_bld_23_0_1_2 (x0 : Int) (x1 : Int) (x2 : Int) (w : World) : (oBuild 23 [(0, .int .i64 x0), (1, .int .i64 x1), (2, .int .i64 x2)]).run Tryz.prog w = .ok (.value (.agg #[(.int .i64 x0), (.int .i64 x1), (.int .i64 x2)])) w := by kernel_rfl
theorem pN_bld_23_0_1_2 (x0 : Int) (x1 : Int) (x2 : Int) : pN Tryz.prog (oBuild 23 [(0, .int .i64 x0), (1, .int .i64 x1), (2, .int .i64 x2)]) w K = K (.agg #[(.int .i64 x0), (.int .i64 x1), (.int .i64 x2)]) w := by rw [pN_def, run_bld_23_0_1_2, rN_value]
theorem run_bld_23_0_2 (x0 : Int) (x2 : Int) (w : World) : (oBuild 23 [(0, .int .i64 x0), (2, .int .i64 x2)]).run Tryz.prog w = .ok (.value (.agg #[(.int .i64 x0), (.int .i64 0), (.int .i64 x2)])) w := by kernel_rfl
theorem pN_bld_23_0_2 (x0 : Int) (x2 : Int) : pN Tryz.prog (oBuild 23 [(0, .int .i64 x0), (2, .int .i64 x2)]) w K = K (.agg #[(.int .i64 x0), (.int .i64 0), (.int .i64 x2)]) w := by rw [pN_def, run_bld_23_0_2, rN_value]
theorem run_bld_48_0 (x0 : Int) (w : World) : (oBuild 48 [(0, .int .i64 x0)]).run Tryz.prog w = .ok (.value (.agg #[(.int .i64 x0), (bv 0), (.int .i64 0), (.int .i64 0)])) w := by kernel_rfl
theorem pN_bld_48_0 (x0 : Int) : pN Tryz.prog (oBuild 48 [(0, .int .i64 x0)]) w K = K (.agg #[(.int .i64 x0), (bv 0), (.int .i64 0), (.int .i64 0)]) w := by rw [pN_def, run_bld_48_0, rN_value]
theorem run_bld_48_0_1 (x0 : Int) (x1 : UInt8) (w : World) : (oBuild 48 [(0, .int .i64 x0), (1, bv x1)]).run Tryz.prog w = .ok (.value (.agg #[(.int .i64 x0), (bv x1), (.int .i64 0), (.int .i64 0)])) w := by kernel_rfl
theorem pN_bld_48_0_1 (x0 : Int) (x1 : UInt8) : pN Tryz.prog (oBuild 48 [(0, .int .i64 x0), (1, bv x1)]) w K = K (.agg #[(.int .i64 x0), (bv x1), (.int .i64 0), (.int .i64 0)]) w := by rw [pN_def, run_bld_48_0_1, rN_value]
theorem run_bld_48_0_2 (x0 : Int) (x2 : Int) (w : World) : (oBuild 48 [(0, .int .i64 x0), (2, .int .i64 x2)]).run Tryz.prog w = .ok (.value (.agg #[(.int .i64 x0), (bv 0), (.int .i64 x2), (.int .i64 0)])) w := by kernel_rfl
theorem pN_bld_48_0_2 (x0 : Int) (x2 : Int) : pN Tryz.prog (oBuild 48 [(0, .int .i64 x0), (2, .int .i64 x2)]) w K = K (.agg #[(.int .i64 x0), (bv 0), (.int .i64 x2), (.int .i64 0)]) w := by rw [pN_def, run_bld_48_0_2, rN_value]
theorem run_bld_48_0_2_3 (x0 : Int) (x2 : Int) (x3 : Int) (w : World) : (oBuild 48 [(0, .int .i64 x0), (2, .int .i64 x2), (3, .int .i64 x3)]).run Tryz.prog w = .ok (.value (.agg #[(.int .i64 x0), (bv 0), (.int .i64 x2), (.int .i64 x3)])) w := by kernel_rfl
theorem pN_bld_48_0_2_3 (x0 : Int) (x2 : Int) (x3 : Int) : pN Tryz.prog (oBuild 48 [(0, .int .i64 x0), (2, .int .i64 x2), (3, .int .i64 x3)]) w K = K (.agg #[(.int .i64 x0), (bv 0), (.int .i64 x2), (.int .i64 x3)]) w := by rw [pN_def, run_bld_48_0_2_3, rN_value]
theorem run_bld_69_  (w : World) : (oBuild 69 []).run Tryz.prog w = .ok (.value (.agg #[(.int .i64 0), (.int .i64 0), (.int .i64 0), (.int .i64 0), (.int .i64 0)])) w := by kernel_rfl
theorem pN_bld_69_  : pN Tryz.prog (oBuild 69 []) w K = K (.agg #[(.int .i64 0), (.int .i64 0), (.int .i64 0), (.int .i64 0), (.int .i64 0)]) w := by rw [pN_def, run_bld_69_, rN_value]
theorem run_bld_69_0_1 (x0 : Int) (x1_0 : Int) (x1_1 : Int) (x1_2 : Int) (x1_3 : Int) (w : World) : (oBuild 69 [(0, .int .i64 x0), (1, .agg #[.int .i64 x1_0, .int .i64 x1_1, .int .i64 x1_2, .int .i64 x1_3])]).run Tryz.prog w = .ok (.value (.agg #[(.int .i64 x0), (.int .i64 x1_0), (.int .i64 x1_1), (.int .i64 x1_2), (.int .i64 x1_3)])) w := by kernel_rfl
theorem pN_bld_69_0_1 (x0 : Int) (x1_0 : Int) (x1_1 : Int) (x1_2 : Int) (x1_3 : Int) : pN Tryz.prog (oBuild 69 [(0, .int .i64 x0), (1, .agg #[.int .i64 x1_0, .int .i64 x1_1, .int .i64 x1_2, .int .i64 x1_3])]) w K = K (.agg #[(.int .i64 x0), (.int .i64 x1_0), (.int .i64 x1_1), (.int .i64 x1_2), (.int .i64 x1_3)]) w := by rw [pN_def, run_bld_69_0_1, rN_value]
theorem run_bld_69_1 (x1_0 : Int) (x1_1 : Int) (x1_2 : Int) (x1_3 : Int) (w : World) : (oBuild 69 [(1, .agg #[.int .i64 x1_0, .int .i64 x1_1, .int .i64 x1_2, .int .i64 x1_3])]).run Tryz.prog w = .ok (.value (.agg #[(.int .i64 0), (.int .i64 x1_0), (.int .i64 x1_1), (.int .i64 x1_2), (.int .i64 x1_3)])) w := by kernel_rfl
theorem pN_bld_69_1 (x1_0 : Int) (x1_1 : Int) (x1_2 : Int) (x1_3 : Int) : pN Tryz.prog (oBuild 69 [(1, .agg #[.int .i64 x1_0, .int .i64 x1_1, .int .i64 x1_2, .int .i64 x1_3])]) w K = K (.agg #[(.int .i64 0), (.int .i64 x1_0), (.int .i64 x1_1), (.int .i64 x1_2), (.int .i64 x1_3)]) w := by rw [pN_def, run_bld_69_1, rN_value]
theorem run_bld_73_0_1_2_4 (x0_0 : Int) (x0_1 : Int) (x0_2 : Int) (x1 : Option Addr) (x2_0 : Int) (x2_1_0 : Int) (x2_1_1 : Int) (x2_1_2 : Int) (x2_1_3 : Int) (x4 : Option Addr) (w : World) : (oBuild 73 [(0, .agg #[.int .i64 x0_0, .int .i64 x0_1, .int .i64 x0_2]), (1, .pointer x1), (2, .agg #[.int .i64 x2_0, .int .i64 x2_1_0, .int .i64 x2_1_1, .int .i64 x2_1_2, .int .i64 x2_1_3]), (4, .pointer x4)]).run Tryz.prog w = .ok (.value (.agg #[(.int .i64 x0_0), (.int .i64 x0_1), (.int .i64 x0_2), (.pointer x1), (.int .i64 x2_0), (.int .i64 x2_1_0), (.int .i64 x2_1_1), (.int .i64 x2_1_2), (.int .i64 x2_1_3), (.map none), (.pointer x4)])) w := by kernel_rfl
theorem pN_bld_73_0_1_2_4 (x0_0 : Int) (x0_1 : Int) (x0_2 : Int) (x1 : Option Addr) (x2_0 : Int) (x2_1_0 : Int) (x2_1_1 : Int) (x2_1_2 : Int) (x2_1_3 : Int) (x4 : Option Addr) : pN Tryz.prog (oBuild 73 [(0, .agg #[.int .i64 x0_0, .int .i64 x0_1, .int .i64 x0_2]), (1, .pointer x1), (2, .agg #[.int .i64 x2_0, .int .i64 x2_1_0, .int .i64 x2_1_1, .int .i64 x2_1_2, .int .i64 x2_1_3]), (4, .pointer x4)]) w K = K (.agg #[(.int .i64 x0_0), (.int .i64 x0_1), (.int .i64 x0_2), (.pointer x1), (.int .i64 x2_0), (.int .i64 x2_1_0), (.int .i64 x2_1_1), (.int .i64 x2_1_2), (.int .i64 x2_1_3), (.map none), (.pointer x4)]) w := by rw [pN_def, run_bld_73_0_1_2_4, rN_value]
theorem run_bld_100_  (w : World) : (oBuild 100 []).run Tryz.prog w = .ok (.value (.agg #[(.int .i64 0), (.int .i64 0), (.int .i64 0), (.int .i64 0), (.int .i64 0)])) w := by kernel_rfl
theorem pN_bld_100_  : pN Tryz.prog (oBuild 100 []) w K = K (.agg #[(.int .i64 0), (.int .i64 0), (.int .i64 0), (.int .i64 0), (.int .i64 0)]) w := by rw [pN_def, run_bld_100_, rN_value]
theorem run_bld_100_1 (x1_0 : Int) (x1_1 : Int) (x1_2 : Int) (x1_3 : Int) (w : World) : (oBuild 100 [(1, .agg #[.int .i64 x1_0, .int .i64 x1_1, .int .i64 x1_2, .int .i64 x1_3])]).run Tryz.prog w = .ok (.value (.agg #[(.int .i64 0), (.int .i64 x1_0), (.int .i64 x1_1), (.int .i64 x1_2), (.int .i64 x1_3)])) w := by kernel_rfl
theorem pN_bld_100_1 (x1_0 : Int) (x1_1 : Int) (x1_2 : Int) (x1_3 : Int) : pN Tryz.prog (oBuild 100 [(1, .agg #[.int .i64 x1_0, .int .i64 x1_1, .int .i64 x1_2, .int .i64 x1_3])]) w K = K (.agg #[(.int .i64 0), (.int .i64 x1_0), (.int .i64 x1_1), (.int .i64 x1_2), (.int .i64 x1_3)]) w := by rw [pN_def, run_bld_100_1, rN_value]
theorem run_bld_119_0_1 (x0 : Option Addr) (x1 : Option Addr) (w : World) : (oBuild 119 [(0, .pointer x0), (1, .pointer x1)]).run Tryz.prog w = .ok (.value (.agg #[(.pointer x0), (.pointer x1), (.slice none 0 0)])) w := by kernel_rfl
theorem pN_bld_119_0_1 (x0 : Option Addr) (x1 : Option Addr) : pN Tryz.prog (oBuild 119 [(0, .pointer x0), (1, .pointer x1)]) w K = K (.agg #[(.pointer x0), (.pointer x1), (.slice none 0 0)]) w := by rw [pN_def, run_bld_119_0_1, rN_value]
theorem run_bld_122_0_2_4 (x0 : Option Addr) (x0n x0c : Nat) (x2 : Option Addr) (x2n x2c : Nat) (x4 : UInt8) (w : World) : (oBuild 122 [(0, .slice x0 x0n x0c), (2, .slice x2 x2n x2c), (4, bv x4)]).run Tryz.prog w = .ok (.value (.agg #[(.slice x0 x0n x0c), (.slice none 0 0), (.slice x2 x2n x2c), (.slice none 0 0), (bv x4)])) w := by kernel_rfl
theorem pN_bld_122_0_2_4 (x0 : Option Addr) (x0n x0c : Nat) (x2 : Option Addr) (x2n x2c : Nat) (x4 : UInt8) : pN Tryz.prog (oBuild 122 [(0, .slice x0 x0n x0c), (2, .slice x2 x2n x2c), (4, bv x4)]) w K = K (.agg #[(.slice x0 x0n x0c), (.slice none 0 0), (.slice x2 x2n x2c), (.slice none 0 0), (bv x4)]) w := by rw [pN_def, run_bld_122_0_2_4, rN_value]
theorem run_bld_139_0_1_2_3 (x0 : Option Addr) (x1 : Option Addr) (x2 : Option Addr) (x3 : Option Addr) (w : World) : (oBuild 139 [(0, .pointer x0), (1, .pointer x1), (2, .pointer x2), (3, .pointer x3)]).run Tryz.prog w = .ok (.value (.agg #[(.pointer x0), (.pointer x1), (.pointer x2), (.pointer x3)])) w := by kernel_rfl
theorem pN_bld_139_0_1_2_3 (x0 : Option Addr) (x1 : Option Addr) (x2 : Option Addr) (x3 : Option Addr) : pN Tryz.prog (oBuild 139 [(0, .pointer x0), (1, .pointer x1), (2, .pointer x2), (3, .pointer x3)]) w K = K (.agg #[(.pointer x0), (.pointer x1), (.pointer x2), (.pointer x3)]) w := by rw [pN_def, run_bld_139_0_1_2_3, rN_value]
theorem run_bld_141_0_1_2_3_4_5_6_7_8_9_10_11_12_13 (x0_0 : Int) (x0_1 : Int) (x0_2 : Int) (x1_0 : Int) (x1_1_0 : Int) (x1_1_1 : Int) (x1_1_2 : Int) (x1_1_3 : Int) (x2 : Option Addr) (x3 : Option Addr) (x4 : Option Addr) (x5 : Option Addr) (x6 : Option Addr) (x7 : Option Addr) (x8 : Option Addr) (x9_0 : Option Addr) (x9_1 : Option Addr) (x9_2 : Option Addr) (x9_3 : Option Addr) (x10_0 : Option Addr) (x10_1 : Option Addr) (x10_2 : Option Addr) (x10_3 : Option Addr) (x11 : Option Addr) (x12 : Option Addr) (x13 : Option Addr) (w : World) : (oBuild 141 [(0, .agg #[.int .i64 x0_0, .int .i64 x0_1, .int .i64 x0_2]), (1, .agg #[.int .i64 x1_0, .int .i64 x1_1_0, .int .i64 x1_1_1, .int .i64 x1_1_2, .int .i64 x1_1_3]), (2, .pointer x2), (3, .pointer x3), (4, .pointer x4), (5, .pointer x5), (6, .pointer x6), (7, .pointer x7), (8, .pointer x8), (9, .agg #[.pointer x9_0, .pointer x9_1, .pointer x9_2, .pointer x9_3]), (10, .agg #[.pointer x10_0, .pointer x10_1, .pointer x10_2, .pointer x10_3]), (11, .pointer x11), (12, .pointer x12), (13, .pointer x13)]).run Tryz.prog w = .ok (.value (.agg #[(.int .i64 x0_0), (.int .i64 x0_1), (.int .i64 x0_2), (.int .i64 x1_0), (.int .i64 x1_1_0), (.int .i64 x1_1_1), (.int .i64 x1_1_2), (.int .i64 x1_1_3), (.pointer x2), (.pointer x3), (.pointer x4), (.pointer x5), (.pointer x6), (.pointer x7), (.pointer x8), (.pointer x9_0), (.pointer x9_1), (.pointer x9_2), (.pointer x9_3), (.pointer x10_0), (.pointer x10_1), (.pointer x10_2), (.pointer x10_3), (.pointer x11), (.pointer x12), (.pointer x13)])) w := by kernel_rfl
theorem pN_bld_141_0_1_2_3_4_5_6_7_8_9_10_11_12_13 (x0_0 : Int) (x0_1 : Int) (x0_2 : Int) (x1_0 : Int) (x1_1_0 : Int) (x1_1_1 : Int) (x1_1_2 : Int) (x1_1_3 : Int) (x2 : Option Addr) (x3 : Option Addr) (x4 : Option Addr) (x5 : Option Addr) (x6 : Option Addr) (x7 : Option Addr) (x8 : Option Addr) (x9_0 : Option Addr) (x9_1 : Option Addr) (x9_2 : Option Addr) (x9_3 : Option Addr) (x10_0 : Option Addr) (x10_1 : Option Addr) (x10_2 : Option Addr) (x10_3 : Option Addr) (x11 : Option Addr) (x12 : Option Addr) (x13 : Option Addr) : pN Tryz.prog (oBuild 141 [(0, .agg #[.int .i64 x0_0, .int .i64 x0_1, .int .i64 x0_2]), (1, .agg #[.int .i64 x1_0, .int .i64 x1_1_0, .int .i64 x1_1_1, .int .i64 x1_1_2, .int .i64 x1_1_3]), (2, .pointer x2), (3, .pointer x3), (4, .pointer x4), (5, .pointer x5), (6, .pointer x6), (7, .pointer x7), (8, .pointer x8), (9, .agg #[.pointer x9_0, .pointer x9_1, .pointer x9_2, .pointer x9_3]), (10, .agg #[.pointer x10_0, .pointer x10_1, .pointer x10_2, .pointer x10_3]), (11, .pointer x11), (12, .pointer x12), (13, .pointer x13)]) w K = K (.agg #[(.int .i64 x0_0), (.int .i64 x0_1), (.int .i64 x0_2), (.int .i64 x1_0), (.int .i64 x1_1_0), (.int .i64 x1_1_1), (.int .i64 x1_1_2), (.int .i64 x1_1_3), (.pointer x2), (.pointer x3), (.pointer x4), (.pointer x5), (.pointer x6), (.pointer x7), (.pointer x8), (.pointer x9_0), (.pointer x9_1), (.pointer x9_2), (.pointer x9_3), (.pointer x10_0), (.pointer x10_1), (.pointer x10_2), (.pointer x10_3), (.pointer x11), (.pointer x12), (.pointer x13)]) w := by rw [pN_def, run_bld_141_0_1_2_3_4_5_6_7_8_9_10_11_12_13, rN_value]
theorem run_bld_164_0_1 (x0 : Option Addr) (x0n x0c : Nat) (x1 : Int) (w : World) : (oBuild 164 [(0, .slice x0 x0n x0c), (1, .int .u32 x1)]).run Tryz.prog w = .ok (.value (.agg #[(.slice x0 x0n x0c), (.int .u32 x1), (.int .i64 0)])) w := by kernel_rfl
theorem pN_bld_164_0_1 (x0 : Option Addr) (x0n x0c : Nat) (x1 : Int) : pN Tryz.prog (oBuild 164 [(0, .slice x0 x0n x0c), (1, .int .u32 x1)]) w K = K (.agg #[(.slice x0 x0n x0c), (.int .u32 x1), (.int .i64 0)]) w := by rw [pN_def, run_bld_164_0_1, rN_value]
theorem run_bld_171_0_1 (x0 : Option Addr) (x1 : Option Addr) (w : World) : (oBuild 171 [(0, .pointer x0), (1, .pointer x1)]).run Tryz.prog w = .ok (.value (.agg #[(.pointer x0), (.pointer x1), (.bool false)])) w := by kernel_rfl
theorem pN_bld_171_0_1 (x0 : Option Addr) (x1 : Option Addr) : pN Tryz.prog (oBuild 171 [(0, .pointer x0), (1, .pointer x1)]) w K = K (.agg #[(.pointer x0), (.pointer x1), (.bool false)]) w := by rw [pN_def, run_bld_171_0_1, rN_value]
theorem run_bld_175_0 (x0 : Int) (w : World) : (oBuild 175 [(0, .int .i64 x0)]).run Tryz.prog w = .ok (.value (.agg #[(.int .i64 x0), (.slice none 0 0), (.int .i64 0), (.int .i64 0)])) w := by kernel_rfl
theorem pN_bld_175_0 (x0 : Int) : pN Tryz.prog (oBuild 175 [(0, .int .i64 x0)]) w K = K (.agg #[(.int .i64 x0), (.slice none 0 0), (.int .i64 0), (.int .i64 0)]) w := by rw [pN_def, run_bld_175_0, rN_value]
theorem run_bld_182_0 (x0 : Option Addr) (w : World) : (oBuild 182 [(0, .pointer x0)]).run Tryz.prog w = .ok (.value (.agg #[(.pointer x0), (.pointer none), (.bool false), (.bool false)])) w := by kernel_rfl
theorem pN_bld_182_0 (x0 : Option Addr) : pN Tryz.prog (oBuild 182 [(0, .pointer x0)]) w K = K (.agg #[(.pointer x0), (.pointer none), (.bool false), (.bool false)]) w := by rw [pN_def, run_bld_182_0, rN_value]
theorem run_bld_193_0 (x0 : Int) (w : World) : (oBuild 193 [(0, .int .i64 x0)]).run Tryz.prog w = .ok (.value (.agg #[(.int .i64 x0), (.slice none 0 0)])) w := by kernel_rfl
theorem pN_bld_193_0 (x0 : Int) : pN Tryz.prog (oBuild 193 [(0, .int .i64 x0)]) w K = K (.agg #[(.int .i64 x0), (.slice none 0 0)]) w := by rw [pN_def, run_bld_193_0, rN_value]
theorem run_bld_219_0_1 (x0 : Int) (x1 : Option Addr) (x1n x1c : Nat) (w : World) : (oBuild 219 [(0, .int .i64 x0), (1, .slice x1 x1n x1c)]).run Tryz.prog w = .ok (.value (.agg #[(.int .i64 x0), (.slice x1 x1n x1c)])) w := by kernel_rfl
theorem pN_bld_219_0_1 (x0 : Int) (x1 : Option Addr) (x1n x1c : Nat) : pN Tryz.prog (oBuild 219 [(0, .int .i64 x0), (1, .slice x1 x1n x1c)]) w K = K (.agg #[(.int .i64 x0), (.slice x1 x1n x1c)]) w := by rw [pN_def, run_bld_219_0_1, rN_value]
theorem run_bld_224_0_1 (x0 : Int) (x1 : Int) (w : World) : (oBuild 224 [(0, .int .i64 x0), (1, .int .u32 x1)]).run Tryz.prog w = .ok (.value (.agg #[(.int .i64 x0), (.int .u32 x1), (.int .u32 0)])) w := by kernel_rfl
theorem pN_bld_224_0_1 (x0 : Int) (x1 : Int) : pN Tryz.prog (oBuild 224 [(0, .int .i64 x0), (1, .int .u32 x1)]) w K = K (.agg #[(.int .i64 x0), (.int .u32 x1), (.int .u32 0)]) w := by rw [pN_def, run_bld_224_0_1, rN_value]
theorem run_bld_226_0_1 (x0 : Option Addr) (x0n x0c : Nat) (x1_0 : Int) (x1_1 : Int) (x1_2 : Int) (w : World) : (oBuild 226 [(0, .slice x0 x0n x0c), (1, .agg #[.int .i64 x1_0, .int .u32 x1_1, .int .u32 x1_2])]).run Tryz.prog w = .ok (.value (.agg #[(.slice x0 x0n x0c), (.int .i64 x1_0), (.int .u32 x1_1), (.int .u32 x1_2)])) w := by kernel_rfl
theorem pN_bld_226_0_1 (x0 : Option Addr) (x0n x0c : Nat) (x1_0 : Int) (x1_1 : Int) (x1_2 : Int) : pN Tryz.prog (oBuild 226 [(0, .slice x0 x0n x0c), (1, .agg #[.int .i64 x1_0, .int .u32 x1_1, .int .u32 x1_2])]) w K = K (.agg #[(.slice x0 x0n x0c), (.int .i64 x1_0), (.int .u32 x1_1), (.int .u32 x1_2)]) w := by rw [pN_def, run_bld_226_0_1, rN_value]
theorem run_bld_233_0_1 (x0 : Option Addr) (x1 : Option Addr) (w : World) : (oBuild 233 [(0, .pointer x0), (1, .pointer x1)]).run Tryz.prog w = .ok (.value (.agg #[(.pointer x0), (.pointer x1), (.bool false)])) w := by kernel_rfl
theorem pN_bld_233_0_1 (x0 : Option Addr) (x1 : Option Addr) : pN Tryz.prog (oBuild 233 [(0, .pointer x0), (1, .pointer x1)]) w K = K (.agg #[(.pointer x0), (.pointer x1), (.bool false)]) w := by rw [pN_def, run_bld_233_0_1, rN_value]
theorem run_bld_254_0 (x0 : Option Addr) (x0n x0c : Nat) (w : World) : (oBuild 254 [(0, .slice x0 x0n x0c)]).run Tryz.prog w = .ok (.value (.agg #[(.slice x0 x0n x0c)])) w := by kernel_rfl
theorem pN_bld_254_0 (x0 : Option Addr) (x0n x0c : Nat) : pN Tryz.prog (oBuild 254 [(0, .slice x0 x0n x0c)]) w K = K (.agg #[(.slice x0 x0n x0c)]) w := by rw [pN_def, run_bld_254_0, rN_value]
theorem run_bld_272_1_2_3 (x1 : Int) (x2 : Int) (x3 : Int) (w : World) : (oBuild 272 [(1, .int .i64 x1), (2, .int .i64 x2), (3, .int .i64 x3)]).run Tryz.prog w = .ok (.value (.agg #[(.slice none 0 0), (.int .i64 x1), (.int .i64 x2), (.int .i64 x3)])) w := by kernel_rfl
theorem pN_bld_272_1_2_3 (x1 : Int) (x2 : Int) (x3 : Int) : pN Tryz.prog (oBuild 272 [(1, .int .i64 x1), (2, .int .i64 x2), (3, .int .i64 x3)]) w K = K (.agg #[(.slice none 0 0), (.int .i64 x1), (.int .i64 x2), (.int .i64 x3)]) w := by rw [pN_def, run_bld_272_1_2_3, rN_value]
theorem run_bld_67_0_1_2_3 (x0 : Int) (x1 : Int) (x2 : Int) (x3 : Int) (w : World) : (oBuild 67 [(0, .int .i64 x0), (1, .int .i64 x1), (2, .int .i64 x2), (3, .int .i64 x3)]).run Tryz.prog w = .ok (.value (.agg #[(.int .i64 x0), (.int .i64 x1), (.int .i64 x2), (.int .i64 x3)])) w := by kernel_rfl
theorem pN_bld_67_0_1_2_3 (x0 : Int) (x1 : Int) (x2 : Int) (x3 : Int) : pN Tryz.prog (oBuild 67 [(0, .int .i64 x0), (1, .int .i64 x1), (2, .int .i64 x2), (3, .int .i64 x3)]) w K = K (.agg #[(.int .i64 x0), (.int .i64 x1), (.int .i64 x2), (.int .i64 x3)]) w := by rw [pN_def, run_bld_67_0_1_2_3, rN_value]
end
attribute [go_sem] pN_shl_3_u64_4 pA_shl_3_u64_4 pN_shl_148_u64_1 pA_shl_148_u64_1 pN_shl_148_u64_8 pA_shl_148_u64_8 pN_shr_3_u64_5 pA_shr_3_u64_5 pN_shr_148_u64_11 pA_shr_148_u64_11 pN_shr_148_u64_27 pA_shr_148_u64_27 pN_shr_188_u64_16 pA_shr_188_u64_16 pN_shr_188_u64_32 pA_shr_188_u64_32 pN_shr_188_u64_58 pA_shr_188_u64_58 pN_shr_188_u64_8 pA_shr_188_u64_8 pN_and_3_1 pA_and_3_1 pN_bld_23_0_1_2 pN_bld_23_0_2 pN_bld_48_0 pN_bld_48_0_1 pN_bld_48_0_2 pN_bld_48_0_2_3 pN_bld_69_ pN_bld_69_0_1 pN_bld_69_1 pN_bld_73_0_1_2_4 pN_bld_100_ pN_bld_100_1 pN_bld_119_0_1 pN_bld_122_0_2_4 pN_bld_139_0_1_2_3 pN_bld_141_0_1_2_3_4_5_6_7_8_9_10_11_12_13 pN_bld_164_0_1 pN_bld_171_0_1 pN_bld_175_0 pN_bld_182_0 pN_bld_193_0 pN_bld_219_0_1 pN_bld_224_0_1 pN_bld_226_0_1 pN_bld_233_0_1 pN_bld_254_0 pN_bld_272_1_2_3 pN_bld_67_0_1_2_3
theorem cells_3 : Tryz.prog.cellsOf 3 = 1 := by kernel_rfl
theorem cells_5 : Tryz.prog.cellsOf 5 = 1 := by kernel_rfl
theorem bytes_5 : Tryz.prog.bytesOf 5 = 1 := by kernel_rfl
theorem cells_23 : Tryz.prog.cellsOf 23 = 3 := by kernel_rfl
theorem cells_30 : Tryz.prog.cellsOf 30 = 1 := by kernel_rfl
theorem cells_32 : Tryz.prog.cellsOf 32 = 6 := by kernel_rfl
theorem bytes_32 : Tryz.prog.bytesOf 32 = 64 := by kernel_rfl
theorem piece (cs : List Value) (o s : Nat) : cs.drop o = (cs.drop o).take s ++ cs.drop (o + s) := by rw [← List.drop_drop, List.take_append_drop]
def T_api_Props.ok (W : World) (b : T_api_Props) (k : Nat) : Prop := (-9223372036854775808 ≤ b.LC ∧ b.LC < 9223372036854775808) ∧ (-9223372036854775808 ≤ b.LP ∧ b.LP < 9223372036854775808) ∧ (-9223372036854775808 ≤ b.PB ∧ b.PB < 9223372036854775808)
theorem opn_api_Props (W : World) : Opn Tryz.prog W 23 T_api_Props.enc (T_api_Props.ok W) := by
  refine ⟨fun {H} en fuel cs x hx hw => ?_⟩
  obtain ⟨xs, n, _, rfl, hl, hlen, hf⟩ := DataW.trod_struct Tryz.underlying23 hx
  have hlen : xs.length = 3 := hlen
  rw [cells_23] at hl
  obtain ⟨b0, e0, k0, m0, o0⟩ := opn_field Tryz.underlying23 hw hf 0 3 0 1 ⟨_, rfl, rfl, rfl⟩ cells_3 (by omega) (opn_i64 Tryz.underlying3)
  have q0 := piece cs 0 1
  rw [e0] at q0
  obtain ⟨b1, e1, k1, m1, o1⟩ := opn_field Tryz.underlying23 hw hf 1 3 1 1 ⟨_, rfl, rfl, rfl⟩ cells_3 (by omega) (opn_i64 Tryz.underlying3)
  have q1 := piece cs 1 1
  rw [e1] at q1
  obtain ⟨b2, e2, k2, m2, o2⟩ := opn_field Tryz.underlying23 hw hf 2 3 2 1 ⟨_, rfl, rfl, rfl⟩ cells_3 (by omega) (opn_i64 Tryz.underlying3)
  have q2 := piece cs 2 1
  rw [e2] at q2
  have hz : cs.drop 3 = [] := List.drop_of_length_le (by omega)
  refine ⟨⟨b0, b1, b2⟩, ?_, ⟨o0, o1, o2⟩⟩
  have q : cs.drop 0 = _ := q0
  simp only [Nat.zero_add, Nat.reduceAdd, hz, List.drop_zero] at q q1 q2
  rw [q1] at q
  rw [q2] at q
  exact q
def T_pithlaw15_Op.ok (W : World) (b : T_pithlaw15_Op) (k : Nat) : Prop := (-9223372036854775808 ≤ b.Kind ∧ b.Kind < 9223372036854775808) ∧ (∃ k', k' ≤ k ∧ (RdP cd_uint8 (old W) b.B.1 b.B.2 ∧ b.B.2.length * 1 ≤ reachBytes ∧ b.B.2.length + 1 ≤ k' ∧ ∀ c0 ∈ b.B.2, ∃ k0, k0 ≤ k' ∧ True)) ∧ (-9223372036854775808 ≤ b.N ∧ b.N < 9223372036854775808) ∧ (∃ k', k' ≤ k ∧ b.Props.ok W k')
theorem opn_pithlaw15_Op (W : World) : Opn Tryz.prog W 32 T_pithlaw15_Op.enc (T_pithlaw15_Op.ok W) := by
  refine ⟨fun {H} en fuel cs x hx hw => ?_⟩
  obtain ⟨xs, n, _, rfl, hl, hlen, hf⟩ := DataW.trod_struct Tryz.underlying32 hx
  have hlen : xs.length = 4 := hlen
  rw [cells_32] at hl
  obtain ⟨b0, e0, k0, m0, o0⟩ := opn_field Tryz.underlying32 hw hf 0 3 0 1 ⟨_, rfl, rfl, rfl⟩ cells_3 (by omega) (opn_i64 Tryz.underlying3)
  have q0 := piece cs 0 1
  rw [e0] at q0
  obtain ⟨b1, e1, k1, m1, o1⟩ := opn_field Tryz.underlying32 hw hf 1 30 1 1 ⟨_, rfl, rfl, rfl⟩ cells_30 (by omega) (opn_slice (C := cd_uint8) Tryz.underlying30 cells_5 bytes_5 (opn_u8 Tryz.underlying5))
  have q1 := piece cs 1 1
  rw [e1] at q1
  obtain ⟨b2, e2, k2, m2, o2⟩ := opn_field Tryz.underlying32 hw hf 2 3 2 1 ⟨_, rfl, rfl, rfl⟩ cells_3 (by omega) (opn_i64 Tryz.underlying3)
  have q2 := piece cs 2 1
  rw [e2] at q2
  obtain ⟨b3, e3, k3, m3, o3⟩ := opn_field Tryz.underlying32 hw hf 3 23 3 3 ⟨_, rfl, rfl, rfl⟩ cells_23 (by omega) (opn_api_Props W)
  have q3 := piece cs 3 3
  rw [e3] at q3
  have hz : cs.drop 6 = [] := List.drop_of_length_le (by omega)
  refine ⟨⟨b0, b1, b2, b3⟩, ?_, ⟨o0, ⟨_, m1, o1⟩, o2, ⟨_, m3, o3⟩⟩⟩
  have q : cs.drop 0 = _ := q0
  simp only [Nat.zero_add, Nat.reduceAdd, hz, List.drop_zero] at q q1 q2 q3
  rw [q1] at q
  rw [q2] at q
  rw [q3] at q
  exact q
def T_api_Symbol.ok (W : World) (b : T_api_Symbol) (k : Nat) : Prop := (-9223372036854775808 ≤ b.Kind ∧ b.Kind < 9223372036854775808) ∧ True ∧ (-9223372036854775808 ≤ b.Len ∧ b.Len < 9223372036854775808) ∧ (-9223372036854775808 ≤ b.Dist ∧ b.Dist < 9223372036854775808)
end Go.Proofs.YtbgnnjfpiblkmaaGreatDoor

namespace Go.Proofs.YtbgnnjfpiblkmaaGreatDoor
open Go
namespace Z

abbrev Y := T_api_Symbol
structure St where
  num : Int
  r0 : Int
  r1 : Int
  r2 : Int
  r3 : Int
def St.new : St := ⟨0, 1, 1, 1, 1⟩
def St.cells (s : St) : List Value := [.int .i64 s.num, .int .i64 s.r0, .int .i64 s.r1, .int .i64 s.r2, .int .i64 s.r3]
def St.zero : St := ⟨0, 0, 0, 0, 0⟩
def isDist (d : Int) : Prop := 1 ≤ d ∧ d ≤ 4294967295
instance (d : Int) : Decidable (isDist d) := by unfold isDist; exact inferInstance
def isLen (n : Int) : Prop := 2 ≤ n ∧ n ≤ 273
instance (n : Int) : Decidable (isLen n) := by unfold isLen; exact inferInstance
structure St.Right (s : St) : Prop where
  num : 0 ≤ s.num ∧ s.num < 12
  d0 : isDist s.r0
  d1 : isDist s.r1
  d2 : isDist s.r2
  d3 : isDist s.r3
theorem St.Right.new : St.new.Right := ⟨by decide, by decide, by decide, by decide, by decide⟩
def St.rep (s : St) (i : Int) : Int := if i = 0 then s.r0 else if i = 1 then s.r1 else if i = 2 then s.r2 else s.r3
theorem St.Right.rep {s : St} (h : s.Right) (i : Int) : isDist (s.rep i) := by
  unfold St.rep
  obtain ⟨_, h0, h1, h2, h3⟩ := h
  repeat (split; · assumption)
  assumption
def moved (n kind : Int) : Int := if kind = 1 then (if n < 4 then 0 else if n < 10 then n - 3 else n - 6) else if kind = 2 then (if 7 ≤ n then 10 else 7) else if 7 ≤ n then 11 else if kind = 3 then 8 else 9
theorem moved_bd {n kind : Int} (h : 0 ≤ n ∧ n < 12) : 0 ≤ moved n kind ∧ moved n kind < 12 := by
  unfold moved
  repeat (split; · first | omega | (split <;> omega) | (repeat (split; · omega); omega))
  omega
def errY (y : Y) : Int := if y.Kind = 1 ∨ y.Kind = 4 then 0 else if y.Kind = 2 then (if isLen y.Len ∧ isDist y.Dist then 0 else 7) else if y.Kind = 3 then (if isLen y.Len ∧ 0 ≤ y.Dist ∧ y.Dist ≤ 3 then 0 else 7) else 6
def St.next (s : St) (y : Y) : St :=
  if y.Kind = 2 then ⟨moved s.num 2, y.Dist, s.r0, s.r1, s.r2⟩
  else if y.Kind = 3 then (if y.Dist = 0 then ⟨moved s.num 3, s.r0, s.r1, s.r2, s.r3⟩ else if y.Dist = 1 then ⟨moved s.num 3, s.r1, s.r0, s.r2, s.r3⟩ else if y.Dist = 2 then ⟨moved s.num 3, s.r2, s.r0, s.r1, s.r3⟩ else ⟨moved s.num 3, s.r3, s.r0, s.r1, s.r2⟩)
  else ⟨moved s.num y.Kind, s.r0, s.r1, s.r2, s.r3⟩
theorem St.Right.next {s : St} (h : s.Right) {y : Y} (hy : errY y = 0) : (s.next y).Right := by
  obtain ⟨hn, h0, h1, h2, h3⟩ := h
  unfold St.next
  split
  · rename_i hk
    unfold errY at hy
    rw [if_neg (by omega), if_pos hk] at hy
    have hd : isDist y.Dist := by
      by_cases hd : isLen y.Len ∧ isDist y.Dist
      · exact hd.2
      · rw [if_neg hd] at hy; omega
    exact ⟨moved_bd (kind := 2) hn, hd, h0, h1, h2⟩
  · split
    · repeat' split
      all_goals exact ⟨moved_bd (kind := 3) hn, by assumption, by assumption, by assumption, by assumption⟩
    · exact ⟨moved_bd (kind := y.Kind) hn, h0, h1, h2, h3⟩

def dist (s : St) (y : Y) : Int := if y.Kind = 2 then y.Dist else if y.Kind = 3 then s.rep y.Dist else s.r0
def size (y : Y) : Int := if errY y ≠ 0 then 0 else if y.Kind = 2 ∨ y.Kind = 3 then y.Len else 1

def top : Nat → Nat → Nat
  | 0, _ => 0
  | f + 1, x => if x < 2 then 0 else top f (x / 2) + 1
def slot (d : Int) : Int := if d - 1 < 4 then d - 1 else 2 * (Nat.log2 (d - 1).toNat : Int) + (d - 1) / 2 ^ ((d - 1).toNat.log2 - 1) % 2
def bitsN (s : Int) : Nat := if s < 4 then 0 else (s / 2 - 1).toNat
def least (s : Int) : Int := if s < 4 then s + 1 else (2 + s % 2) * 2 ^ (s / 2 - 1).toNat + 1

structure Pr where
  lc : Int
  lp : Int
  pb : Int
def Pr.Ok (p : Pr) : Prop := 0 ≤ p.lc ∧ 0 ≤ p.lp ∧ 0 ≤ p.pb ∧ p.pb ≤ 4 ∧ p.lc + p.lp ≤ 4
instance (p : Pr) : Decidable p.Ok := by unfold Pr.Ok; exact inferInstance
def Pr.cells (p : Pr) : List Value := [.int .i64 p.lc, .int .i64 p.lp, .int .i64 p.pb]

end Z

structure Glo (W : World) : Prop where
  lit : ∀ i : Nat, i < 12 → W.cell? ⟨0, i, none⟩ = some (.int .i64 (Z.moved i 1))
  mat : ∀ i : Nat, i < 12 → W.cell? ⟨2, i, none⟩ = some (.int .i64 (Z.moved i 2))
  rep : ∀ i : Nat, i < 12 → W.cell? ⟨3, i, none⟩ = some (.int .i64 (Z.moved i 3))
  sht : ∀ i : Nat, i < 12 → W.cell? ⟨1, i, none⟩ = some (.int .i64 (Z.moved i 4))

theorem Glo.up {E w W : World} {L M : List HA} (hS : Sat E w L) [h : Has (old W) L M] {a : Addr} {v : Value} (hc : W.cell? a = some v) : w.cell? a = some v := by
  have h0 : Sat E w (old W :: M) := hS.perm h.perm
  have h1 := h0.old_at 0 rfl
  unfold World.cell? at hc ⊢
  cases hb : W.heap[a.block]? with
  | none => rw [hb] at hc; simp at hc
  | some o =>
    rw [h1 _ _ hb]
    rw [hb] at hc
    exact hc

theorem laid_get {P : Program} {W : World} : ∀ {l : List (String × DataW Unit)} {ps : List MemPlace} {n : String} {d : DataW Unit}, DataW.LaidVars P W l ps → (n, d) ∈ l →
    ∃ g t cs fuel p, P.globalNamed n = some g ∧ (P.globals[g]?).map (·.type) = some t ∧ W.var? P n = some cs ∧ DataW.trod (fun _ => ()) P W 0 (fun _ => true) false fuel t cs.toList = some (d, p)
  | [], _, _, _, _, h => by cases h
  | (n0, d0) :: r, ps, n, d, ⟨g, t, cs, fuel, p, q, h1, h2, h3, h4, h5, _⟩, h => by
    rcases List.mem_cons.1 h with e | h
    · cases e; exact ⟨g, t, cs, fuel, p, h1, h2, h3, h4⟩
    · exact laid_get h5 h

theorem laid_ints {W : World} {l : List (String × DataW Unit)} {ps : List MemPlace} (hl : DataW.LaidVars Tryz.prog W l ps) {n : String} {g t e m : Nat} (zs : List Int) (hm : (n, DataW.agg (zs.map fun z => .lit (.int .i64 z))) ∈ l)
    (hg : Tryz.prog.globalNamed n = some g) (ht : (Tryz.prog.globals[g]?).map (·.type) = some t) (hu : Tryz.prog.underlying t = some (.array m e)) (hc : Tryz.prog.cellsOf e = 1) (he : Tryz.prog.underlying e = some (.int .i64)) (i : Nat) (z : Int) (hi : i < m) (hz : zs[i]? = some z) : W.cell? ⟨g, i, none⟩ = some (.int .i64 z) := by
  obtain ⟨g', t', cs, fuel, p, hg', ht', hv, hd⟩ := laid_get hl hm
  obtain rfl := Option.some.inj (hg.symm.trans hg')
  obtain rfl := Option.some.inj (ht.symm.trans ht')
  obtain ⟨xs, k, _, ex, _, hln, hel⟩ := DataW.trod_array hu hd
  have hE := hel i hi
  have hlt : i < zs.length := (List.getElem?_eq_some_iff.1 hz).1
  have e3 : (xs.map (·.1)) = zs.map fun z => .lit (.int .i64 z) := (DataW.agg.inj (Prod.mk.inj ex).1).symm
  have hxl : xs.length = zs.length := by have := congrArg List.length e3; simpa using this
  rw [hc, Nat.mul_one, List.getElem?_eq_getElem (by omega)] at hE
  obtain ⟨y, e1, e2, _⟩ := DataW.trod_int he hE
  have e4 : (xs.map (·.1))[i]? = (zs.map fun z => (DataW.lit (.int .i64 z) : DataW Unit))[i]? := by rw [e3]
  rw [List.getElem?_map, List.getElem?_map, List.getElem?_eq_getElem (by omega : i < xs.length), hz, e2] at e4
  simp only [Option.map_some, Option.some.injEq, DataW.lit.injEq, Lit.int.injEq, true_and] at e4
  subst e4
  rw [World.var?_cell hg hv i]
  have h0 : ((cs.toList.drop i).take 1)[0]? = some (.int .i64 y) := by rw [e1]; rfl
  have : cs.toList[i]? = some (.int .i64 y) := by simpa using h0
  simpa using this

end Go.Proofs.YtbgnnjfpiblkmaaGreatDoor

namespace Go.Proofs.YtbgnnjfpiblkmaaGreatDoor
open Go

section
variable [Pan] {P : Program} {E w : World} {K : Value → World → Prop} {J : Value → Prop} {L M : List HA} {v : Value} {t : TypeId} {o : Ob} {b i n : Nat}

theorem run_la_at (hS : Sat E w L) [h : Fnd (cel b) L o M] [Ag P t n] (cs : List Value) (hc : (o.cs.drop i).take n = cs) (hn : n = cs.length) : (oLoad t (.pointer (some ⟨b, i, none⟩))).run P w = .ok (.value (.agg cs.toArray)) w := by
  have hl := cells_of_blk (o := i) (cel_at (b := b) hS) n
  rw [List.toList_toArray, hc] at hl
  exact run_load_agg Ag.ag (by rw [← hn]; exact Ag.sz) hl
theorem pN_la_at (hS : Sat E w L) [h : Fnd (cel b) L o M] [Ag P t n] (cs : List Value) (hc : (o.cs.drop i).take n = cs) (hn : n = cs.length) (hk : K (.agg cs.toArray) w) : pN P (oLoad t (.pointer (some ⟨b, i, none⟩))) w K := by
  rw [pN_def, run_la_at hS cs hc hn, rN_value]; exact hk
theorem pL_la_at (hS : Sat E w L) [h : Fnd (cel b) L o M] [Ag P t n] (cs : List Value) (hc : (o.cs.drop i).take n = cs) (hn : n = cs.length) (hk : J (.agg cs.toArray)) : pL P (oLoad t (.pointer (some ⟨b, i, none⟩))) w J :=
  ⟨_, run_la_at hS cs hc hn, hk⟩
theorem pN_sa_at {us : List Value} (hS : Sat E w L) [h : Fnd (cel b) L o M] [Ag P t n] (hn : n = us.length) (hi : i + us.length ≤ o.cs.length) (h1 : us.all (·.oneCell') = true)
    (hk : ∀ w', Sat E w' (cel b ⟨o.e, o.cs.take i ++ us ++ o.cs.drop (i + us.length)⟩ :: M) → K undef w') : pN P (oStore t (.pointer (some ⟨b, i, none⟩)) (.agg us.toArray)) w K := by
  refine pN_st_part (hS.fd (cel b)) Ag.sz (by simpa using hn) (by simpa using List.all_eq_true.1 h1) (by simpa using hi) fun w' hS' => hk w' ?_
  simpa [cel] using hS'

theorem pDf_fn {fn : Fn} {first cap args : List Value} {K : Deferred → Prop} (hk : K { target := .fn fn cap.toArray, args := first.toArray ++ args.toArray }) : pDf P (oDf (.func fn first.toArray cap.toArray) args) w K := ⟨_, rfl, hk⟩

theorem dE_of {f : FuncId} {cap args : List Value} {u u2 : FrameMode} {K : World → Prop} {Q : Value → World → Prop} (hi : ∀ (args : Array Value) (w : World), (callFunc f args).run P w = .ok (.enter f args) w) (hu : settle u2 = .returning) (hk : ∀ r w, Q r w → K w)
    (h : CallsD P f (args ++ cap).toArray u w fun e u' w' => u' = u2 ∧ ∃ r, e = .returned r ∧ Q r w') : dE P { target := .fn (.func f) cap.toArray, args := #[] ++ args.toArray } u w K := by
  refine ⟨.func f, cap.toArray, f, (args ++ cap).toArray, rfl, ?_, h.mono fun e u' w' he => ?_⟩
  · show (callFunc f _).run P w = _
    rw [hi]
    simp
  · obtain ⟨rfl, r, rfl, hq⟩ := he
    exact ⟨⟨r, rfl⟩, hu, hk _ _ hq⟩
end

theorem pN_panic [Z : Pan] {P : Program} {w : World} {K : Value → World → Prop} {t : TypeId} {v : Value} (hr : (oPanic (.iface t v)).run P w = .halt (.panic (.iface t v)) w) (h : Z.z [{ v := .iface t v, recovered := false }] w) : pN P (oPanic (.iface t v)) w K := by
  rw [pN_def, hr]
  exact h

theorem or_low (n : Nat) (a b : Int) (j : Nat) (ha : 0 ≤ a) (hb : 0 ≤ b) (hb2 : b < 2 ^ j) (h : a * 2 ^ j + b < 2 ^ n) : ((BitVec.ofInt n (a * 2 ^ j) ||| BitVec.ofInt n b).toNat : Int) = a * 2 ^ j + b := by
  obtain ⟨a, rfl⟩ := Int.eq_ofNat_of_zero_le ha
  obtain ⟨b, rfl⟩ := Int.eq_ofNat_of_zero_le hb
  have hb3 : b < 2 ^ j := by exact_mod_cast hb2
  have h2 : a * 2 ^ j + b < 2 ^ n := by exact_mod_cast h
  have e1 : ((a : Int) * 2 ^ j) = ((a * 2 ^ j : Nat) : Int) := by push_cast; rfl
  have e2 : (BitVec.ofInt n ((a * 2 ^ j : Nat) : Int)).toNat = a * 2 ^ j := by
    rw [BitVec.toNat_ofInt]
    norm_cast
    rw [Int.toNat_natCast]
    exact Nat.mod_eq_of_lt (by omega)
  have e3 : (BitVec.ofInt n (b : Int)).toNat = b := by
    rw [BitVec.toNat_ofInt]
    norm_cast
    rw [Int.toNat_natCast]
    exact Nat.mod_eq_of_lt (by omega)
  rw [e1, BitVec.toNat_or, e2, e3, Nat.mul_comm a, ← Nat.two_pow_add_eq_or_of_lt hb3]
  push_cast
  rfl

end Go.Proofs.YtbgnnjfpiblkmaaGreatDoor

namespace Go.Proofs.YtbgnnjfpiblkmaaGreatDoor
open Go

section
variable [Pan] {P : Program} {E w : World} {K : Value → World → Prop} {J : Value → Prop} {L M : List HA} {v : Value} {t e : TypeId} {o : Ob} {b i j n : Nat} {k : IntKind} {x : Int}

class Ar (P : Program) (t : TypeId) (n : outParam Nat) : Prop where
  ex : ∃ e, P.underlying t = some (.array n e) ∧ (∀ w, (sizeOf e).run P w = .ok 1 w) ∧ ∀ w, (isAgg e).run P w = .ok false w

theorem run_aix [h : Ar P t n] {cs : List Value} (j : Nat) (hx : x = (j : Int)) (hj : j < n) (hv : cs[j]? = some v) (w : World) : (oIndex t (.agg cs.toArray) (.int k x)).run P w = .ok (.value v) w := by
  obtain ⟨e, ht, hs, ha⟩ := h.ex
  subst hx
  refine run_oV_ok ?_
  have h1 : (j : Int) < n := by omega
  simp [Instr.index, run_underlying ht, asIntOf, hs, hj, part, ha, hv]
theorem pN_aix [h : Ar P t n] {cs : List Value} (j : Nat) (hx : x = (j : Int)) (hj : j < n) (hv : cs[j]? = some v) (hk : K v w) : pN P (oIndex t (.agg cs.toArray) (.int k x)) w K := by
  rw [pN_def, run_aix j hx hj hv, rN_value]; exact hk

theorem run_aslo [h : Ar P t n] (lo : Nat) (hx : x = (lo : Int)) (hl : lo < n) (w : World) :
    (oSl t (.pointer (some ⟨b, i, none⟩)) (some (.int k x)) none none).run P w = .ok (.value (.slice (some ⟨b, i + lo, none⟩) (n - lo) (n - lo))) w := by
  obtain ⟨e, ht, hs, _⟩ := h.ex
  subst hx
  refine run_oV_ok ?_
  have h1 : (0 : Int) ≤ lo ∧ (lo : Int) ≤ n := by omega
  have h2 : ¬ n = lo := by omega
  have h3 : lo ≤ n := by omega
  simp [Instr.sliceAt, run_underlying ht, Instr.sureAddr, Instr.sliceBounds, Instr.sliceBound, asIntOf, h3, hs, h2, Addr.add_lit]
theorem run_ashi [h : Ar P t n] (hi : Nat) (hx : x = (hi : Int)) (hl : hi ≤ n) (h0 : 0 < n) (w : World) :
    (oSl t (.pointer (some ⟨b, i, none⟩)) none (some (.int k x)) none).run P w = .ok (.value (.slice (some ⟨b, i, none⟩) hi n)) w := by
  obtain ⟨e, ht, hs, _⟩ := h.ex
  subst hx
  refine run_oV_ok ?_
  have h2 : ¬ n = 0 := by omega
  simp [Instr.sliceAt, run_underlying ht, Instr.sureAddr, Instr.sliceBounds, Instr.sliceBound, asIntOf, hl, hs, h2, Addr.add_lit]
theorem pA_aslo [h : Ar P t n] (lo : Nat) (hx : x = (lo : Int)) (hl : lo < n) (hk : J (.slice (some ⟨b, i + lo, none⟩) (n - lo) (n - lo))) : pA P (oSl t (.pointer (some ⟨b, i, none⟩)) (some (.int k x)) none none) J :=
  ⟨_, run_aslo lo hx hl, hk⟩
theorem pA_ashi [h : Ar P t n] (hi : Nat) (hx : x = (hi : Int)) (hl : hi ≤ n) (h0 : 0 < n) (hk : J (.slice (some ⟨b, i, none⟩) hi n)) : pA P (oSl t (.pointer (some ⟨b, i, none⟩)) none (some (.int k x)) none) J :=
  ⟨_, run_ashi hi hx hl h0, hk⟩

theorem pN_cpc {dn dc sn sc : Nat} {ty sT : TypeId} {cs : List Bool} (hS : Sat E w L) [h : Fnd (cel b) L o M] {z : Value} {bytes : Nat} (ht : SlT P t e z 1 bytes) (us : List Value) (hus : (o.cs.drop j).take (min sn dn) = us) (hl : us.length = min sn dn) (h1 : us.all (·.oneCell') = true) (hi : i + us.length ≤ o.cs.length)
    (hk : ∀ w', Sat E w' (cel b ⟨o.e, o.cs.take i ++ us ++ o.cs.drop (i + us.length)⟩ :: M) → K (.int .i64 (min sn dn : Nat)) w') : pN P (oBi .copy #[t, sT] ty cs [.slice (some ⟨b, i, none⟩) dn dc, .slice (some ⟨b, j, none⟩) sn sc]) w K := by
  obtain ⟨i', hi', hz, hs, hby⟩ := ht.info
  have hS1 := hS.fd (cel b)
  have hb := cel_at (b := b) hS
  have hc := cells_of_blk (o := j) hb us.length
  rw [List.toList_toArray] at hc
  have hld := run_loadCells_list (P := P) w ⟨b, j, none⟩ us (fun q u hu => hc q u (by rw [hl, hus]; exact hu))
  have hst := run_storeCells_at P b i o.e us 0 o.cs.toArray w hb (by simpa using hi) (fun u hu => List.all_eq_true.1 h1 u hu)
  rw [Nat.add_zero] at hst
  have hsz' : (Go.sizeOf e).run P w = .ok 1 w := by simp [Go.sizeOf, typeInfo, hi', hs]
  have hm : (Builtin.lenOf (.slice (some ⟨b, j, none⟩) sn sc)).run P w = .ok sn w := by simp [Builtin.lenOf]
  have hf : (Builtin.firstCells 1 (Nat.min sn dn) (.slice (some ⟨b, j, none⟩) sn sc)).run P w = .ok us.toArray w := by
    rw [hl] at hld
    simpa [Builtin.firstCells] using hld
  have hr : (Builtin.copy_ #[t, sT] ty #[.slice (some ⟨b, i, none⟩) dn dc, .slice (some ⟨b, j, none⟩) sn sc]).run P w = .ok (.int .i64 (Nat.min sn dn : Nat)) (w.setRow b (o.cs.take i ++ us ++ o.cs.drop (i + us.length)).toArray) := by
    simp only [Builtin.copy_, List.getElem?_toArray, List.getElem?_cons_zero, List.getElem?_cons_succ, Sem.run_bind, run_underlying ht.under, Result.andThen_ok, hm, hsz', hf, hst]
    rfl
  have hr2 : (oBi .copy #[t, sT] ty cs [.slice (some ⟨b, i, none⟩) dn dc, .slice (some ⟨b, j, none⟩) sn sc]).run P w = .ok (.value (.int .i64 (Nat.min sn dn : Nat))) (w.setRow b (o.cs.take i ++ us ++ o.cs.drop (i + us.length)).toArray) := run_oV_ok hr
  rw [pN_def, hr2, rN_value]
  exact hk _ (hS1.row _)
end

end Go.Proofs.YtbgnnjfpiblkmaaGreatDoor

namespace Go.Proofs.YtbgnnjfpiblkmaaGreatDoor
open Go
set_option maxRecDepth 100000

end Go.Proofs.YtbgnnjfpiblkmaaGreatDoor

namespace Go.Proofs.YtbgnnjfpiblkmaaGreatDoor
open Go

class StrY (P : Program) (t : TypeId) : Prop where
  un : P.underlying t = some .string

section
variable [Pan] {P : Program} {E w : World} {K : Value → World → Prop} {J : Value → Prop} {L M : List HA} {v : Value} {t ty : TypeId} {l r : List UInt8} {k k' : IntKind} {i : Int} {cs : List Bool}

omit [Pan] in
theorem size_str (l : List UInt8) : (ByteArray.mk l.toArray).size = l.length := by simp [ByteArray.size]
omit [Pan] in
theorem run_sadd {xo yo : Operand} (hb : l.length + r.length ≤ 9223372036854775807) (w : World) : (oBin .add t xo yo (.string ⟨l.toArray⟩) (.string ⟨r.toArray⟩)).run P w = .ok (.value (.string ⟨(l ++ r).toArray⟩)) w := by
  refine run_bin_of t xo yo (by unfold eqGuard; rfl) ?_
  have e : (ByteArray.mk l.toArray) ++ (ByteArray.mk r.toArray) = ⟨(l ++ r).toArray⟩ := by
    apply ByteArray.ext
    simp
  have hm : ¬ (((ByteArray.mk l.toArray).size + (ByteArray.mk r.toArray).size : Nat) : Int) > IntKind.i64.max := by
    rw [size_str, size_str]
    simp [IntKind.max, IntKind.signed, IntKind.bits]
    omega
  simp only [binOp, Op.stringOp]
  rw [if_neg hm, e]
  rfl
theorem pN_sadd {xo yo : Operand} (hb : l.length + r.length ≤ 9223372036854775807) (hk : K (.string ⟨(l ++ r).toArray⟩) w) : pN P (oBin .add t xo yo (.string ⟨l.toArray⟩) (.string ⟨r.toArray⟩)) w K := by
  rw [pN_def, run_sadd hb, rN_value]; exact hk
end

def rowM {α : Type} (C : Cd α) (s : Sl) (l : List α) : HA := fun h => ∃ g cap cur fr, s = ⟨some ⟨g, 0, none⟩, cap⟩ ∧ h g = some (.cells cur C.e fr) ∧ l.length ≤ cap ∧ cur.toList.take (l.length * C.size) = C.flat l

section
variable [Pan] {P : Program} {E w : World} {K : Value → World → Prop} {J : Value → Prop} {L M : List HA} {v : Value} {t ty d : TypeId} {l r : List UInt8} {α : Type} {C : Cd α} {s : Sl}

omit [Pan] in
theorem cell_of_cells {g j : Nat} {cur : Array Value} {e : TypeId} {fr : Nat × Nat} (h : w.heap[g]? = some (.cells cur e fr)) : w.cell? ⟨g, j, none⟩ = cur[j]? := by
  simp [World.cell?, h]
instance RdP.rowM {l : List α} : RdP C (rowM C s l) s l := ⟨fun w ⟨h1, ⟨g, cap, cur, fr, hs, hg, hc, ht⟩, hh⟩ => by
  subst hs
  refine ⟨C.flat_len l, some ⟨g, 0, none⟩, cap, rfl, hc, fun h => (by cases h), fun a ha j u hu => ?_⟩
  cases ha
  rw [← ht, List.getElem?_take] at hu
  split at hu
  · rw [Addr.add_lit, Nat.zero_add, cell_of_cells (hh _ _ hg)]
    simpa using hu
  · cases hu⟩

end

section
variable [Pan] {P : Program} {E w : World} {K : Value → World → Prop} {L M : List HA} {v : Value} {t tn ty : TypeId} {α : Type} {C : Cd α} {s : Sl} {l : List α}

end

section
variable [Pan] {P : Program} {E w : World} {K : Value → World → Prop} {L M : List HA} {v : Value} {t tt ty : TypeId} {α : Type} {C : Cd α} {s s2 : Sl} {l r : List α}

omit [Pan] in
theorem El.sub {o j : Nat} {a : Addr} (h : El C (s.sub o C.size) j a) (hc : o < s.c) : El C s (o + j) a := by
  obtain ⟨b, hb, rfl⟩ := h
  have hne : ¬ s.c = o := by omega
  simp only [Sl.sub, if_neg hne] at hb
  cases hs : s.a with
  | none => rw [hs] at hb; cases hb
  | some b0 =>
    rw [hs] at hb
    simp only [Option.map_some, Option.some.injEq] at hb
    subst hb
    exact ⟨b0, hs, by rw [Addr.add_add, Nat.add_mul]⟩

def putL {α : Type} (l : List α) (o : Nat) (us : List α) : List α := l.take o ++ us ++ l.drop (o + us.length)
omit [Pan] in
theorem putL_len (l : List α) (o : Nat) (us : List α) (h : o + us.length ≤ l.length) : (putL l o us).length = l.length := by simp [putL]; omega

theorem pN_cp_gen {bytes : Nat} {z : Value} {e : TypeId} {size g n cap o dn dc m : Nat} {xs us : List Value} {src : Value} {sT : TypeId} {cs : List Bool} (ht : SlT P t e z size bytes) (hS : Sat E w (own e size (.slice (some ⟨g, 0, none⟩) n cap) n xs :: L))
    (hm : (Builtin.lenOf src).run P w = .ok m w) (hc : (Builtin.firstCells size (Nat.min m dn) src).run P w = .ok us.toArray w) (hus : us.length = Nat.min m dn * size) (h1 : ∀ u ∈ us, u.oneCell' = true) (hfit : o * size + us.length ≤ xs.length)
    (hk : ∀ w', Sat E w' (own e size (.slice (some ⟨g, 0, none⟩) n cap) n (xs.take (o * size) ++ us ++ xs.drop (o * size + us.length)) :: L) → K (.int .i64 (Nat.min m dn : Nat)) w') :
    pN P (oBi .copy #[t, sT] ty cs [.slice (some ⟨g, o * size, none⟩) dn dc, src]) w K := by
  obtain ⟨i, hi, hz, hs, hby⟩ := ht.info
  obtain ⟨cur, ⟨hl, hnc, hcm, hsz, htk⟩, hS1⟩ := hS.own_blk
  have hxl : xs.length ≤ cur.size := by
    rw [hl, hsz]; exact Nat.mul_le_mul_right _ hnc
  have hst := run_storeCells_at P g (o * size) e us 0 cur w (hS1.blk_at 0 rfl) (by omega) h1
  rw [Nat.add_zero] at hst
  have hr : (Builtin.copy_ #[t, sT] ty #[.slice (some ⟨g, o * size, none⟩) dn dc, src]).run P w = .ok (.int .i64 (Nat.min m dn : Nat)) (w.setRow g (cur.toList.take (o * size) ++ us ++ cur.toList.drop (o * size + us.length)).toArray) := by
    have hsz' : (Go.sizeOf e).run P w = .ok size w := by simp [Go.sizeOf, typeInfo, hi, hs]
    simp only [Builtin.copy_, List.getElem?_toArray, List.getElem?_cons_zero, List.getElem?_cons_succ, Sem.run_bind, run_underlying ht.under, Result.andThen_ok, hm, hsz', hc, hst]
    rfl
  have hr2 : (oBi .copy #[t, sT] ty cs [.slice (some ⟨g, o * size, none⟩) dn dc, src]).run P w = .ok (.value (.int .i64 (Nat.min m dn : Nat))) (w.setRow g (cur.toList.take (o * size) ++ us ++ cur.toList.drop (o * size + us.length)).toArray) := run_oV_ok hr
  rw [pN_def, hr2, rN_value]
  refine hk _ ((hS1.row _).weaken fun hp hb => ?_)
  have h3 := blk_own (n := n) (size := size) hnc hcm (cur := (cur.toList.take (o * size) ++ us ++ cur.toList.drop (o * size + us.length)).toArray) (by simp; omega) hb
  have e : ((cur.toList.take (o * size) ++ us ++ cur.toList.drop (o * size + us.length)).toArray).toList.take (n * size) = xs.take (o * size) ++ us ++ xs.drop (o * size + us.length) := by
    rw [← htk] at hfit ⊢
    have h5 : n * size ≤ cur.size := by rw [hsz]; exact Nat.mul_le_mul_right _ hnc
    simp only [List.length_take, Array.length_toList] at hfit
    simp only [List.take_append, List.take_take, List.drop_take, List.length_take, List.length_append, Array.length_toList]
    have a1 : min (n * size) (o * size) = o * size := by omega
    have a2 : min (o * size) (n * size) = o * size := by omega
    have a3 : min (o * size) cur.size = o * size := by omega
    rw [a1, a2, a3, List.take_of_length_le (l := us) (by omega)]
  rw [e] at h3
  exact h3

omit [Pan] in
theorem sub_addr {o g : Nat} (hg : s.a = some ⟨g, 0, none⟩) (hc : o < s.c) (size : Nat) : (s.sub o size).a = some ⟨g, o * size, none⟩ := by
  simp only [Sl.sub, if_neg (show ¬ s.c = o by omega), hg, Option.map_some, Addr.add_lit, Nat.zero_add]
omit [Pan] in
theorem rows_at {l : List α} (hS : Sat E w L) [hf : Fnd (rows C s) L l M] (h : 0 < l.length) : ∃ g, s.a = some ⟨g, 0, none⟩ ∧ l.length ≤ s.c := by
  obtain ⟨_, ⟨h1, h2⟩ | ⟨g, cap, cur, h1, _, _, h3, _⟩⟩ := (hS.fd (rows C s)).own_at 0 rfl
  · omega
  · simp only [Value.slice.injEq, true_and] at h1
    exact ⟨g, h1.1, by rw [h1.2]; exact h3⟩

theorem pN_cp {cs : List Bool} {dn n2 dc : Nat} (hS : Sat E w L) [hw : Row P t α C] [hf : Fnd (rows C s) L l M] [hr : Rds C L s2 r] (o : Nat) (hn : o + dn ≤ l.length) (h0 : 0 < dn) (hn2 : n2 = r.length)
    (hk : ∀ w', Sat E w' (rows C s (putL l o (r.take dn)) :: M) → K (.int .i64 (min r.length dn : Nat)) w') : pN P (oBi .copy #[t, t] ty cs [.slice (s.sub o C.size).a dn dc, .slice s2.a n2 s2.c]) w K := by
  subst hn2
  have hS0 := hS.fd (rows C s)
  obtain ⟨g, hg, hc⟩ := rows_at (C := C) (s := s) hS (by omega)
  have hrd := hS.rds (C := C) (s := s2)
  rw [sub_addr hg (by omega)]
  have hsl := Row.slt (P := P) (t := t) (C := C)
  have hfl := C.flat_len l
  have hfr := C.flat_len (r.take dn)
  unfold rows at hS0
  rw [hg] at hS0
  have hmin : r.length.min dn = (r.take dn).length := by simp [Nat.min_comm] <;> rfl
  refine pN_cp_gen (m := r.length) (us := C.flat (r.take dn)) hsl hS0 (by simp [Builtin.lenOf]) ?_ (by rw [hfr, hmin]) (C.flat_one _) ?_ fun w' h3 => ?_
  · obtain ⟨hl2, ao, cap, hv, hcap, hnil, hcell⟩ := hrd
    simp only [Value.slice.injEq, true_and] at hv
    obtain ⟨hv1, hv2⟩ := hv
    rw [hv1]
    cases ao with
    | none =>
      have : r = [] := List.length_eq_zero_iff.1 (hnil rfl).1
      subst this
      simp [Builtin.firstCells, Cd.flat]
    | some a =>
      have := run_loadCells_list (P := P) w a (C.flat (r.take dn)) (fun j u hu => hcell a rfl j u (by
        rw [← C.flat_take, List.getElem?_take] at hu
        split at hu
        · exact hu
        · cases hu))
      rw [hfr, ← hmin] at this
      simpa [Builtin.firstCells] using this
  · rw [hfr, hfl, ← Nat.add_mul]
    exact Nat.mul_le_mul_right _ (by simp; omega)
  · have e : (C.flat l).take (o * C.size) ++ C.flat (r.take dn) ++ (C.flat l).drop (o * C.size + (C.flat (r.take dn)).length) = C.flat (putL l o (r.take dn)) := by
      rw [hfr, ← Nat.add_mul, C.flat_take, C.flat_drop, putL, C.flat_append, C.flat_append]
    rw [e] at h3
    have hlen := putL_len l o (r.take dn) (by simp; omega)
    have h4 := hk w' (by unfold rows; rw [hg, hlen]; exact h3)
    exact h4

end

section
variable [Pan] {P : Program} {E w : World} {K : Value → World → Prop} {J : Value → Prop} {L M : List HA} {t : TypeId} {α : Type} {C : Cd α} {s : Sl} {l : List α} {n : Nat} {k1 k2 : IntKind} {i1 i2 : Int}

theorem pA_sl1w (hS : Sat E w L) [Row P t α C] [h : Rds C L s l] (lo : Nat) (h1 : i1 = (lo : Int)) (hn : n = l.length) (hlo : lo ≤ l.length)
    (hk : Rds C L (s.sub lo C.size) (l.drop lo) → J (.slice (s.sub lo C.size).a (l.length - lo) (s.sub lo C.size).c)) : pA P (oSl t (.slice s.a n s.c) (some (.int k1 i1)) none none) J := by
  subst h1 hn
  refine pA_sl_l (Row.slt (C := C)) (hS.rds (C := C) (s := s)) (by omega) (by omega) ?_
  rw [Int.toNat_natCast, subV_sl]
  refine hk ?_
  have := Rds.sub (C := C) (L := L) (s := s) (l := l) lo l.length hlo (Nat.le_refl _)
  rwa [List.take_of_length_le (by simp)] at this
theorem pA_slhw (hS : Sat E w L) [Row P t α C] [h : Rds C L s l] (hi : Nat) (h2 : i2 = (hi : Int)) (hn : n = l.length) (hhi : hi ≤ l.length)
    (hk : Rds C L (s.sub 0 C.size) (l.take hi) → J (.slice (s.sub 0 C.size).a hi (s.sub 0 C.size).c)) : pA P (oSl t (.slice s.a n s.c) none (some (.int k2 i2)) none) J := by
  subst h2 hn
  refine pA_sl_h (Row.slt (C := C)) (hS.rds (C := C) (s := s)) (by omega) (by omega) ?_
  rw [Int.toNat_natCast, subV_sl]
  refine hk ?_
  have := Rds.sub (C := C) (L := L) (s := s) (l := l) 0 hi (Nat.zero_le _) hhi
  rwa [List.drop_zero, Nat.sub_zero] at this
end

section
variable [Pan] {P : Program} {E w : World} {K : Value → World → Prop} {J : Value → Prop} {L M : List HA} {t : TypeId} {α : Type} {C : Cd α} {xo yo : Operand} {n c m d : Nat} {p : Option Addr}

end

section
variable [Pan] {P : Program} {E w : World} {K : Value → World → Prop} {L M : List HA} {t e : TypeId} {C : Cd UInt8} {s : Sl} {l : List UInt8}

end

end Go.Proofs.YtbgnnjfpiblkmaaGreatDoor

namespace Go.Proofs.YtbgnnjfpiblkmaaGreatDoor
open Go
attribute [local irreducible] oMv oV oU oCall oCallV oBi oBin oUn oLoad oStore oNil oFld oField oIdx oIndex oPick oAlloc oBox oBuild oBs oConv oMk oSl oExt oFn oIface oMap oLook oMapUp oRange oNext oEntry oInv oAssert oPanic oRes pN pA pL pDr pIf gA pGd

instance stry : StrY Tryz.prog 9 := ⟨Tryz.underlying9⟩

section
variable {w : World} {Q : Value → World → Prop}
end

end Go.Proofs.YtbgnnjfpiblkmaaGreatDoor
