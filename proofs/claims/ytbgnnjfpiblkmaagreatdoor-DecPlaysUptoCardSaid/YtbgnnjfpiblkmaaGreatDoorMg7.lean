/-
  Texts of one proof, one behind the other: LfPithref08, Ref8, LfPithlaw14, LfLzdec, TreeGet, LzRd, LzE, Glo, Law14, Bk1, LzSymR, Bk2, Bk3, D15a, Bk4, D15b, D15c, Bk5, D15d.
-/
import Derived.Test.YtbgnnjfpiblkmaaGreatDoorRows
import Derived.SevenTiedAt
import Derived.Test.YtbgnnjfpiblkmaaGreatDoorMg6
set_option linter.unusedSimpArgs false
set_option linter.unnecessarySimpa false
set_option linter.unusedSectionVars false
set_option linter.unusedVariables false

namespace Go.Proofs.YtbgnnjfpiblkmaaGreatDoor
open Go
set_option maxRecDepth 100000

def pithref08_New.H : Hints := { cut := fun  | _ => none, loop := fun | 5 => ([4, 5], 4193328) | _ => ([], 0), order := fun  | _ => [] }
def pithref08_New.F [Pan] (x0 : Value) (w : World) (Q : Value → World → Prop) : Prop :=
 pN Tryz.prog (oBi .len #[30] 3 [false] [x0]) w fun x8 w1 =>
 pN Tryz.prog (oBin .lss 3 (.tmp 8) (.const (.int .i64 5)) x8 (.int .i64 5)) w1 fun x9 w2 =>
 pIf x9
 (Q (.tuple #[(.pointer none), (.int .i64 1)]) w2)
 (∃ (L5 : Value → Value → World → Prop) (m5 : Value → Value → World → Nat),
 L5 (.int .i64 0) (.int .i64 1) w2 ∧
 ∀ (_k5 : Env) (c4l5 : Value) (i5l5 : Value) (w3 : World), L5 c4l5 i5l5 w3 →
 pN Tryz.prog (oBin .lss 3 (.tmp 10) (.const (.int .i64 5)) i5l5 (.int .i64 5)) w3 fun x11 w4 =>
 pIf x11
 (pN Tryz.prog (oBin .mul 3 (.const (.int .i64 256)) (.tmp 14) (.int .i64 256) c4l5) w4 fun x15 w5 =>
 pN Tryz.prog (oIdx 30 x0 i5l5) w5 fun x18 w6 =>
 pN Tryz.prog (oLoad 5 x18) w6 fun x19 w7 =>
 pN Tryz.prog (oConv 5 3 x19) w7 fun x20 w8 =>
 pN Tryz.prog (oBin .add 3 (.tmp 15) (.tmp 20) x15 x20) w8 fun x21 w9 =>
 pN Tryz.prog (oBin .add 3 (.tmp 12) (.const (.int .i64 1)) i5l5 (.int .i64 1)) w9 fun x13 w10 =>
 (L5 x21 x13 w10 ∧ m5 x21 x13 w10 < m5 c4l5 i5l5 w3))
 (pN Tryz.prog (oIdx 30 x0 (.int .i64 0)) w4 fun x23 w11 =>
 pN Tryz.prog (oLoad 5 x23) w11 fun x24 w12 =>
 pN Tryz.prog (oBin .neq 5 (.tmp 24) (.const (.int .u8 0)) x24 (bv 0)) w12 fun x25 w13 =>
 pGd (gB x25 false) (pN Tryz.prog (oMv c4l5) w13) w13 fun x27 w14 =>
 pGd (gB x25 false) (pN Tryz.prog (oBin .eql 3 (.tmp 27) (.const (.int .i64 4294967295)) x27 (.int .i64 4294967295)) w14) w14 fun x28 w15 =>
 pN Tryz.prog (oPick x25 (.bool true) x28) w15 fun x29 w16 =>
 pIf x29
 (Q (.tuple #[(.pointer none), (.int .i64 2)]) w16)
 (pN Tryz.prog (oBuild 272 [(1, (.int .i64 5)), (2, (.int .i64 4294967295)), (3, c4l5)]) w16 fun x31 w17 =>
 pN Tryz.prog (oBox 272 x31) w17 fun x32 w18 =>
 pN Tryz.prog (oNil x32) w18 fun x35 w19 =>
 pN Tryz.prog (oFld 272 x35 0) w19 fun x36 w20 =>
 pN Tryz.prog (oLoad 30 x36) w20 fun x37 w21 =>
 pN Tryz.prog (oBi .append #[30, 30] 30 [false, false] [x37, x0]) w21 fun x39 w22 =>
 pN Tryz.prog (oNil x32) w22 fun x40 w23 =>
 pN Tryz.prog (oFld 272 x40 0) w23 fun x41 w24 =>
 pN Tryz.prog (oStore 30 x41 x39) w24 fun _ w25 =>
 Q (.tuple #[x32, (.int .i64 0)]) w25)))
theorem pithref08_New.calls [Pan] {x0 : Value} {w : World} {Q : Value → World → Prop} (h : pithref08_New.F x0 w Q) : Calls Tryz.prog 171 #[x0] w (retP Q) := calls_lift mixed pithref08_New.H [x0] Tryz.func171 (by kernel_rfl) (by kernel_rfl) h

def pithref08_Decoder_Done.H : Hints := { cut := fun  | _ => none, loop := fun  | _ => ([], 0), order := fun | 1 => [(0, 0), (1, 1), (2, 3), (3, 7), (4, 15), (5, 31), (6, 63), (7, 127), (8, 255), (9, 511), (10, 1023), (11, 2047), (12, 4095), (13, 8191), (14, 16383), (15, 32767), (16, 65535), (17, 131071)] | _ => [] }
def pithref08_Decoder_Done.F [Pan] (x0 : Value) (w : World) (Q : Value → World → Prop) : Prop :=
 pDr w fun w1 =>
 pA Tryz.prog (oNil x0) fun x4 =>
 pA Tryz.prog (oFld 272 x4 1) fun x5 =>
 pL Tryz.prog (oLoad 3 x5) w1 fun x6 =>
 pA Tryz.prog (oNil x0) fun x8 =>
 pA Tryz.prog (oFld 272 x8 0) fun x9 =>
 pL Tryz.prog (oLoad 30 x9) w1 fun x10 =>
 pA Tryz.prog (oBi .len #[30] 3 [false] [x10]) fun x11 =>
 pA Tryz.prog (oBin .eql 3 (.tmp 6) (.tmp 11) x6 x11) fun x12 =>
 gA (gB x12 true) (pA Tryz.prog (oMv x0)) fun x14 =>
 gA (gB x12 true) (pA Tryz.prog (oNil x14)) fun x15 =>
 gA (gB x12 true) (pA Tryz.prog (oFld 272 x15 3)) fun x16 =>
 gA (gB x12 true) (pL Tryz.prog (oLoad 3 x16) w1) fun x17 =>
 gA (gB x12 true) (pA Tryz.prog (oBin .eql 3 (.tmp 17) (.const (.int .i64 0)) x17 (.int .i64 0))) fun x18 =>
 pA Tryz.prog (oPick x12 x18 (.bool false)) fun x19 =>
 Q x19 w1
theorem pithref08_Decoder_Done.calls [Pan] {x0 : Value} {w : World} {Q : Value → World → Prop} (h : pithref08_Decoder_Done.F x0 w Q) : Calls Tryz.prog 173 #[x0] w (retP Q) := calls_lift mixed pithref08_Decoder_Done.H [x0] Tryz.func173 (by kernel_rfl) (by kernel_rfl) h

def pithref08_Decoder_Bit.H : Hints := { cut := fun | 12 => some ([12], 1152921500311883776) | _ => none, loop := fun  | _ => ([], 0), order := fun  | _ => [] }
def pithref08_Decoder_Bit.F [Pan] (x0 x1 x2 : Value) (w : World) (Q : Value → World → Prop) : Prop :=
 pN Tryz.prog (oCall 74 [x1, x2]) w fun x17 w1 =>
 pN Tryz.prog (oExt x17 0) w1 fun x18 w2 =>
 pN Tryz.prog (oExt x17 1) w2 fun x19 w3 =>
 pN Tryz.prog (oBin .neq 3 (.tmp 20) (.const (.int .i64 0)) x19 (.int .i64 0)) w3 fun x21 w4 =>
 pIf x21
 (Q (.tuple #[(.int .i64 0), (.int .i64 7)]) w4)
 (pN Tryz.prog (oNil x0) w4 fun x23 w5 =>
 pN Tryz.prog (oFld 272 x23 2) w5 fun x24 w6 =>
 pN Tryz.prog (oLoad 3 x24) w6 fun x25 w7 =>
 pN Tryz.prog (oConv 3 148 x25) w7 fun x26 w8 =>
 pN Tryz.prog (oCall 116 [x26, x18]) w8 fun x28 w9 =>
 pN Tryz.prog (oConv 148 3 x28) w9 fun x29 w10 =>
 pN Tryz.prog (oCall 213 [x0]) w10 fun x31 w11 =>
 ∃ I12 : Value → World → Prop,
 (pN Tryz.prog (oNil x31) w11 fun x33 w12 =>
 pN Tryz.prog (oFld 272 x33 3) w12 fun x34 w13 =>
 pN Tryz.prog (oLoad 3 x34) w13 fun x35 w14 =>
 pN Tryz.prog (oBin .lss 3 (.tmp 35) (.tmp 36) x35 x29) w14 fun x37 w15 =>
 pIf x37
 (pN Tryz.prog (oNil x31) w15 fun x40 w16 =>
 pN Tryz.prog (oFld 272 x40 2) w16 fun x41 w17 =>
 pN Tryz.prog (oStore 3 x41 x29) w17 fun _ w18 =>
 I12 (.int .i64 0) w18)
 (pN Tryz.prog (oNil x31) w15 fun x44 w19 =>
 pN Tryz.prog (oFld 272 x44 3) w19 fun x45 w20 =>
 pN Tryz.prog (oLoad 3 x45) w20 fun x46 w21 =>
 pN Tryz.prog (oBin .sub 3 (.tmp 46) (.tmp 47) x46 x29) w21 fun x48 w22 =>
 pN Tryz.prog (oNil x31) w22 fun x49 w23 =>
 pN Tryz.prog (oFld 272 x49 3) w23 fun x50 w24 =>
 pN Tryz.prog (oStore 3 x50 x48) w24 fun _ w25 =>
 pN Tryz.prog (oNil x31) w25 fun x53 w26 =>
 pN Tryz.prog (oFld 272 x53 2) w26 fun x54 w27 =>
 pN Tryz.prog (oLoad 3 x54) w27 fun x55 w28 =>
 pN Tryz.prog (oBin .sub 3 (.tmp 55) (.tmp 56) x55 x29) w28 fun x57 w29 =>
 pN Tryz.prog (oNil x31) w29 fun x58 w30 =>
 pN Tryz.prog (oFld 272 x58 2) w30 fun x59 w31 =>
 pN Tryz.prog (oStore 3 x59 x57) w31 fun _ w32 =>
 I12 (.int .i64 1) w32)) ∧
 ∀ (_j12 : Env) (bit12c12 : Value) (w33 : World), I12 bit12c12 w33 →
 pN Tryz.prog (oCall 214 [x31]) w33 fun x61 w34 =>
 pN Tryz.prog (oUn .not x61) w34 fun x63 w35 =>
 pIf x63
 (Q (.tuple #[(.int .i64 0), (.int .i64 1)]) w35)
 (pN Tryz.prog (oNil x31) w35 fun x66 w36 =>
 pN Tryz.prog (oLoad 272 x66) w36 fun x67 w37 =>
 pN Tryz.prog (oNil x0) w37 fun x68 w38 =>
 pN Tryz.prog (oStore 272 x68 x67) w38 fun _ w39 =>
 pN Tryz.prog (oCall 117 [x1, x2, bit12c12]) w39 fun _ w40 =>
 Q (.tuple #[bit12c12, (.int .i64 0)]) w40))
theorem pithref08_Decoder_Bit.calls [Pan] {x0 x1 x2 : Value} {w : World} {Q : Value → World → Prop} (h : pithref08_Decoder_Bit.F x0 x1 x2 w Q) : Calls Tryz.prog 204 #[x0, x1, x2] w (retP Q) := calls_lift mixed pithref08_Decoder_Bit.H [x0, x1, x2] Tryz.func204 (by kernel_rfl) (by kernel_rfl) h

def pithref08_Decoder_Direct.H : Hints := { cut := fun | 7 => some ([7], 590295810358697263792) | 13 => some ([7], 72057585447993472) | _ => none, loop := fun | 6 => ([7, 8], 590295810358705390512) | _ => ([], 0), order := fun | 10 => [(0, 0), (1, 1), (2, 3), (3, 7), (4, 15), (5, 31), (6, 63), (7, 127), (8, 255)] | 11 => [(0, 0), (1, 1), (2, 3), (3, 7), (4, 15), (5, 31), (6, 63), (7, 127), (8, 255), (9, 511), (10, 1023), (11, 2047), (12, 4095)] | 13 => [(0, 0), (1, 1), (2, 3), (3, 7), (4, 15), (5, 31), (6, 63), (7, 127), (8, 255)] | _ => [] }
def pithref08_Decoder_Direct.F [Pan] (x0 x1 : Value) (w : World) (Q : Value → World → Prop) : Prop :=
 pN Tryz.prog (oBin .lss 3 (.tmp 10) (.const (.int .i64 0)) x1 (.int .i64 0)) w fun x11 w1 =>
 pGd (gB x11 false) (pN Tryz.prog (oMv x1) w1) w1 fun x13 w2 =>
 pGd (gB x11 false) (pN Tryz.prog (oBin .gtr 3 (.tmp 13) (.const (.int .i64 32)) x13 (.int .i64 32)) w2) w2 fun x14 w3 =>
 pN Tryz.prog (oPick x11 (.bool true) x14) w3 fun x15 w4 =>
 pIf x15
 (Q (.tuple #[(.int .u32 0), (.int .i64 7)]) w4)
 (pN Tryz.prog (oCall 213 [x0]) w4 fun x17 w5 =>
 ∃ (L6 : Value → Value → World → Prop) (m6 : Value → Value → World → Nat),
 L6 (.int .i64 0) (.int .i64 0) w5 ∧
 ∀ (_k6 : Env) (v7l6 : Value) (i8l6 : Value) (w6 : World), L6 v7l6 i8l6 w6 →
 pN Tryz.prog (oBin .lss 3 (.tmp 18) (.tmp 19) i8l6 x1) w6 fun x20 w7 =>
 pIf x20
 (∃ I7 : Value → World → Prop,
 (pN Tryz.prog (oNil x17) w7 fun x25 w8 =>
 pN Tryz.prog (oFld 272 x25 2) w8 fun x26 w9 =>
 pN Tryz.prog (oLoad 3 x26) w9 fun x27 w10 =>
 pN Tryz.prog (oBin .quo 3 (.tmp 27) (.const (.int .i64 2)) x27 (.int .i64 2)) w10 fun x28 w11 =>
 pN Tryz.prog (oNil x17) w11 fun x29 w12 =>
 pN Tryz.prog (oFld 272 x29 2) w12 fun x30 w13 =>
 pN Tryz.prog (oStore 3 x30 x28) w13 fun _ w14 =>
 pN Tryz.prog (oBin .mul 3 (.const (.int .i64 2)) (.tmp 31) (.int .i64 2) v7l6) w14 fun x32 w15 =>
 ∃ I13 : Value → World → Prop,
 (pDr w15 fun w16 =>
 pA Tryz.prog (oNil x17) fun x34 =>
 pA Tryz.prog (oFld 272 x34 3) fun x35 =>
 pL Tryz.prog (oLoad 3 x35) w16 fun x36 =>
 pA Tryz.prog (oNil x17) fun x38 =>
 pA Tryz.prog (oFld 272 x38 2) fun x39 =>
 pL Tryz.prog (oLoad 3 x39) w16 fun x40 =>
 pA Tryz.prog (oBin .geq 3 (.tmp 36) (.tmp 40) x36 x40) fun x41 =>
 pIf x41
 (pDr w16 fun w17 =>
 pA Tryz.prog (oNil x17) fun x44 =>
 pA Tryz.prog (oFld 272 x44 3) fun x45 =>
 pL Tryz.prog (oLoad 3 x45) w17 fun x46 =>
 pA Tryz.prog (oNil x17) fun x48 =>
 pA Tryz.prog (oFld 272 x48 2) fun x49 =>
 pL Tryz.prog (oLoad 3 x49) w17 fun x50 =>
 pA Tryz.prog (oBin .sub 3 (.tmp 46) (.tmp 50) x46 x50) fun x51 =>
 pA Tryz.prog (oNil x17) fun x52 =>
 pA Tryz.prog (oFld 272 x52 3) fun x53 =>
 pN Tryz.prog (oStore 3 x53 x51) w17 fun _ w18 =>
 (True) ∧ (pN Tryz.prog (oBin .add 3 (.tmp 54) (.const (.int .i64 1)) x32 (.int .i64 1)) w18 fun x55 w19 =>
 I13 x55 w19))
 (I13 x32 w16)) ∧
 ∀ (_j13 : Env) (v7c13 : Value) (w20 : World), I13 v7c13 w20 →
 pDr w20 fun w21 =>
 pA Tryz.prog (oNil x17) fun x57 =>
 pA Tryz.prog (oFld 272 x57 3) fun x58 =>
 pL Tryz.prog (oLoad 3 x58) w21 fun x59 =>
 pA Tryz.prog (oNil x17) fun x61 =>
 pA Tryz.prog (oFld 272 x61 2) fun x62 =>
 pL Tryz.prog (oLoad 3 x62) w21 fun x63 =>
 pA Tryz.prog (oBin .geq 3 (.tmp 59) (.tmp 63) x59 x63) fun x64 =>
 pIf x64
 (Q (.tuple #[(.int .u32 0), (.int .i64 2)]) w21)
 (pN Tryz.prog (oCall 214 [x17]) w21 fun x66 w22 =>
 pN Tryz.prog (oUn .not x66) w22 fun x68 w23 =>
 pIf x68
 (Q (.tuple #[(.int .u32 0), (.int .i64 1)]) w23)
 (I7 v7c13 w23))) ∧
 ∀ (_j7 : Env) (v7c7 : Value) (w24 : World), I7 v7c7 w24 →
 pN Tryz.prog (oBin .add 3 (.tmp 21) (.const (.int .i64 1)) i8l6 (.int .i64 1)) w24 fun x22 w25 =>
 (L6 v7c7 x22 w25 ∧ m6 v7c7 x22 w25 < m6 v7l6 i8l6 w6))
 (pN Tryz.prog (oNil x17) w7 fun x71 w26 =>
 pN Tryz.prog (oLoad 272 x71) w26 fun x72 w27 =>
 pN Tryz.prog (oNil x0) w27 fun x73 w28 =>
 pN Tryz.prog (oStore 272 x73 x72) w28 fun _ w29 =>
 pN Tryz.prog (oConv 3 148 v7l6) w29 fun x75 w30 =>
 Q (.tuple #[x75, (.int .i64 0)]) w30))
theorem pithref08_Decoder_Direct.calls [Pan] {x0 x1 : Value} {w : World} {Q : Value → World → Prop} (h : pithref08_Decoder_Direct.F x0 x1 w Q) : Calls Tryz.prog 207 #[x0, x1] w (retP Q) := calls_lift mixed pithref08_Decoder_Direct.H [x0, x1] Tryz.func207 (by kernel_rfl) (by kernel_rfl) h

def pithref08_Decoder_Fork.F [Pan] (x0 : Value) (w : World) (Q : Value → World → Prop) : Prop :=
 pN Tryz.prog (oNil x0) w fun x5 w1 =>
 pN Tryz.prog (oLoad 272 x5) w1 fun x6 w2 =>
 pN Tryz.prog (oAlloc 272) w2 fun x3 w3 =>
 pN Tryz.prog (oStore 272 x3 x6) w3 fun _ w4 =>
 Q x3 w4
theorem pithref08_Decoder_Fork.calls [Pan] {x0 : Value} {w : World} {Q : Value → World → Prop} (h : pithref08_Decoder_Fork.F x0 w Q) : Calls Tryz.prog 213 #[x0] w (retP Q) := calls_lift mixed .z [x0] Tryz.func213 (by kernel_rfl) (by kernel_rfl) h

def pithref08_Decoder_widen.H : Hints := { cut := fun  | _ => none, loop := fun  | _ => ([], 0), order := fun | 3 => [(0, 0), (1, 1), (2, 3), (3, 7), (4, 15), (5, 31), (6, 63), (7, 127), (8, 255), (9, 511)] | 6 => [(0, 0), (1, 1), (2, 3), (3, 7), (4, 15), (5, 31), (6, 63), (7, 127), (8, 255), (9, 511), (10, 1023), (11, 2047), (12, 4095), (13, 8191), (14, 16383), (15, 32767), (16, 65535), (17, 131071), (18, 262143), (19, 524287), (20, 1048575)] | _ => [] }
def pithref08_Decoder_widen.F [Pan] (x0 : Value) (w : World) (Q : Value → World → Prop) : Prop :=
 pN Tryz.prog (oNil x0) w fun x4 w1 =>
 pN Tryz.prog (oFld 272 x4 2) w1 fun x5 w2 =>
 pN Tryz.prog (oLoad 3 x5) w2 fun x6 w3 =>
 pN Tryz.prog (oBin .geq 3 (.tmp 6) (.const (.int .i64 16777216)) x6 (.int .i64 16777216)) w3 fun x7 w4 =>
 pIf x7
 (Q (.bool true) w4)
 (pDr w4 fun w5 =>
 pA Tryz.prog (oNil x0) fun x9 =>
 pA Tryz.prog (oFld 272 x9 1) fun x10 =>
 pL Tryz.prog (oLoad 3 x10) w5 fun x11 =>
 pA Tryz.prog (oNil x0) fun x13 =>
 pA Tryz.prog (oFld 272 x13 0) fun x14 =>
 pL Tryz.prog (oLoad 30 x14) w5 fun x15 =>
 pA Tryz.prog (oBi .len #[30] 3 [false] [x15]) fun x16 =>
 pA Tryz.prog (oBin .eql 3 (.tmp 11) (.tmp 16) x11 x16) fun x17 =>
 pIf x17
 (Q (.bool false) w5)
 (pN Tryz.prog (oNil x0) w5 fun x20 w6 =>
 pN Tryz.prog (oFld 272 x20 2) w6 fun x21 w7 =>
 pN Tryz.prog (oLoad 3 x21) w7 fun x22 w8 =>
 pN Tryz.prog (oBin .mul 3 (.const (.int .i64 256)) (.tmp 22) (.int .i64 256) x22) w8 fun x23 w9 =>
 pN Tryz.prog (oNil x0) w9 fun x24 w10 =>
 pN Tryz.prog (oFld 272 x24 2) w10 fun x25 w11 =>
 pN Tryz.prog (oStore 3 x25 x23) w11 fun _ w12 =>
 pDr w12 fun w13 =>
 pA Tryz.prog (oNil x0) fun x28 =>
 pA Tryz.prog (oFld 272 x28 3) fun x29 =>
 pL Tryz.prog (oLoad 3 x29) w13 fun x30 =>
 pA Tryz.prog (oBin .mul 3 (.const (.int .i64 256)) (.tmp 30) (.int .i64 256) x30) fun x31 =>
 pA Tryz.prog (oNil x0) fun x33 =>
 pA Tryz.prog (oFld 272 x33 0) fun x34 =>
 pL Tryz.prog (oLoad 30 x34) w13 fun x35 =>
 pA Tryz.prog (oNil x0) fun x37 =>
 pA Tryz.prog (oFld 272 x37 1) fun x38 =>
 pL Tryz.prog (oLoad 3 x38) w13 fun x39 =>
 pA Tryz.prog (oIdx 30 x35 x39) fun x40 =>
 pL Tryz.prog (oLoad 5 x40) w13 fun x41 =>
 pL Tryz.prog (oConv 5 3 x41) w13 fun x42 =>
 pA Tryz.prog (oBin .add 3 (.tmp 31) (.tmp 42) x31 x42) fun x43 =>
 pA Tryz.prog (oNil x0) fun x44 =>
 pA Tryz.prog (oFld 272 x44 3) fun x45 =>
 pN Tryz.prog (oStore 3 x45 x43) w13 fun _ w14 =>
 (True) ∧ (pN Tryz.prog (oNil x0) w14 fun x47 w15 =>
 pN Tryz.prog (oFld 272 x47 1) w15 fun x48 w16 =>
 pN Tryz.prog (oLoad 3 x48) w16 fun x49 w17 =>
 pN Tryz.prog (oBin .add 3 (.tmp 49) (.const (.int .i64 1)) x49 (.int .i64 1)) w17 fun x50 w18 =>
 pN Tryz.prog (oNil x0) w18 fun x51 w19 =>
 pN Tryz.prog (oFld 272 x51 1) w19 fun x52 w20 =>
 pN Tryz.prog (oStore 3 x52 x50) w20 fun _ w21 =>
 Q (.bool true) w21)))
theorem pithref08_Decoder_widen.calls [Pan] {x0 : Value} {w : World} {Q : Value → World → Prop} (h : pithref08_Decoder_widen.F x0 w Q) : Calls Tryz.prog 214 #[x0] w (retP Q) := calls_lift mixed pithref08_Decoder_widen.H [x0] Tryz.func214 (by kernel_rfl) (by kernel_rfl) h

end Go.Proofs.YtbgnnjfpiblkmaaGreatDoor

namespace Go.Proofs.YtbgnnjfpiblkmaaGreatDoor
open Go
attribute [local irreducible] oMv oV oU oCall oCallV oBi oBin oUn oLoad oStore oNil oFld oField oIdx oIndex oPick oAlloc oBox oBuild oBs oConv oMk oSl oExt oFn oIface oMap oLook oMapUp oRange oNext oEntry oInv oAssert oPanic oRes pN pA pL pDr pIf gA pGd

def RDec (d : Nat) (st : D.S) : HA := fun h => ∃ s : Sl, Sats [cel d ⟨272, [.slice s.a st.b.length s.c, .int .i64 st.k, .int .i64 st.R, .int .i64 st.C]⟩, rows cd_uint8 s st.b] h

section
variable {E w : World} {M : List HA} {Q : Value → World → Prop} {d : Nat} {st : D.S}

theorem RDec.opn (hS : Sat E w (RDec d st :: M)) : ∃ s : Sl, Sat E w (cel d ⟨272, [.slice s.a st.b.length s.c, .int .i64 st.k, .int .i64 st.R, .int .i64 st.C]⟩ :: rows cd_uint8 s st.b :: M) := by
  obtain ⟨s, hS⟩ := hS.ex
  exact ⟨s, hS.open_ (M := [_, _]) fun _ h => h⟩
theorem RDec.shut {s : Sl} {L N : List HA} {o : Ob} {l : List UInt8} (hS : Sat E w L) (st : D.S) [h1 : Fnd (cel d) L o N] [h2 : Fnd (rows cd_uint8 s) N l M] (ho : o = ⟨272, [.slice s.a l.length s.c, .int .i64 st.k, .int .i64 st.R, .int .i64 st.C]⟩) (hl : l = st.b) : Sat E w (RDec d st :: M) := by
  subst hl
  subst ho
  exact Sat.shut (M := [_, _]) (hS.fd2 (cel d) (rows cd_uint8 s)) fun _ h => ⟨s, h⟩

abbrev rdC (s : Sl) (st : D.S) : Ob := ⟨272, [.slice s.a st.b.length s.c, .int .i64 st.k, .int .i64 st.R, .int .i64 st.C]⟩

theorem R8Fork_ok {s : Sl} (hS : Sat E w (cel d (rdC s st) :: M)) (hQ : ∀ f w, Sat E w (cel f (rdC s st) :: cel d (rdC s st) :: M) → Q (.pointer (some ⟨f, 0, none⟩)) w) :
    Calls Tryz.prog 213 #[.pointer (some ⟨d, 0, none⟩)] w (retP Q) := by
  refine pithref08_Decoder_Fork.calls ?_
  unfold pithref08_Decoder_Fork.F
  repeat' (first | refine pN_la hS (by rfl) ?_ | (refine pN_sa hS (by rfl) (by rfl) (by rfl) ?_; clear hS; intro w hS; try dsimp only at hS) | (refine pN_nz hS ?_; clear hS; intro a w hS) | refine pN_v (hk := ?_) | fail)
  exact hQ _ _ hS.to

theorem R8widen_ok {s : Sl} (hS : Sat E w (cel d (rdC s st) :: rows cd_uint8 s st.b :: M)) (hk : st.k ≤ st.b.length) (hb : st.b.length ≤ 140737488355328) (r0 : 0 < st.R) (c0 : 0 ≤ st.C) (c1 : st.C < st.R)
    (hQ : ∀ t w, st.widen = some t → Sat E w (cel d (rdC s t) :: rows cd_uint8 s st.b :: M) → Q (.bool true) w) (hZ : ∀ w, st.widen = none → Sat E w (cel d (rdC s st) :: rows cd_uint8 s st.b :: M) → Q (.bool false) w) :
    Calls Tryz.prog 214 #[.pointer (some ⟨d, 0, none⟩)] w (retP Q) := by
  refine pithref08_Decoder_widen.calls ?_
  unfold pithref08_Decoder_widen.F
  by_cases h1 : 16777216 ≤ st.R
  · repeat' (first | (refine pN_geq_s ?_ ?_ <;> intro hc <;> try (exfalso; omega)) | refine pIf_t ?_ | refine pN_l hS (by first | rfl | assumption) ?_ | refine pN_v (hk := ?_) | fail)
    exact hQ st _ (by rw [D.S.widen, if_pos h1]) hS
  · by_cases h2 : st.k = st.b.length
    · repeat' (first | (refine pN_geq_s ?_ ?_ <;> intro hc <;> try (exfalso; omega)) | (refine pA_eql_s ?_ ?_ <;> intro hc <;> try (exfalso; first | omega | exact hc rfl | exact hc (by assumption) | exact absurd hc (by assumption))) | refine pIf_t ?_ | refine pIf_f ?_ | refine pN_l hS (by first | rfl | assumption) ?_ | refine pL_l hS (by first | rfl | assumption) ?_ | (refine pDr_go hS ?_; clear hS; intro w hS) | refine pN_v (hk := ?_) | refine pA_v (hk := ?_) | fail)
      refine hZ _ ?_ hS
      rw [D.S.widen, if_neg h1, List.getElem?_eq_none (by omega)]
    · obtain ⟨x, hx⟩ : ∃ x, st.b[st.k]? = some x := ⟨st.b[st.k]'(by omega), by simp⟩
      have hx2 := x.toNat_lt
      repeat' (first | (refine pN_geq_s ?_ ?_ <;> intro hc <;> try (exfalso; omega)) | (refine pA_eql_s ?_ ?_ <;> intro hc <;> try (exfalso; first | omega | exact hc rfl | exact hc (by assumption) | exact absurd hc (by assumption))) | refine pIf_f ?_ | refine pL_ofb ?_ | refine pN_l hS (by first | rfl | assumption) ?_ | refine pL_l hS (by first | rfl | assumption) ?_ | refine pL_ld1 ha hS ?_ | (refine pN_s hS (by first | exact Nat.le_of_ble_eq_true rfl | assumption) (by rfl) ?_; clear hS; intro w hS; try simp only [List.set_cons_zero, List.set_cons_succ] at hS) | (refine pDr_go hS ?_; clear hS; intro w hS) | refine ⟨trivial, ?_⟩ | refine pA_ixk hS _ (by first | rfl | (exact (Int.toNat_of_nonneg (by omega)).symm)) (by first | rfl | omega | simpa only [go_sem] using True.intro | (simp only [go_sem]; omega)) (by assumption) fun a ha hel => ?_ | refine pN_v (hk := ?_) | refine pA_v (hk := ?_) | fail)
      rw [Int.mul_comm 256, Int.mul_comm 256] at hS
      exact hQ ⟨st.b, st.k + 1, st.R * 256, st.C * 256 + x.toNat⟩ _ (by rw [D.S.widen, if_neg h1, hx]) hS

theorem R8Bit_ok {p : Nat} {l : List Int} (hS : Sat E w (RDec d st :: RSet p l :: M)) (ho : D.Ok st) (hf : B.Fine l) (hb : st.b.length ≤ 140737488355328) (i : Int)
    (hno : ¬ (0 ≤ i ∧ i < l.length) → ∀ w, Sat E w (RDec d st :: RSet p l :: M) → Q (.tuple #[.int .i64 0, .int .i64 7]) w)
    (hok : ∀ t v w, 0 ≤ i → i < l.length → st.bit (B.bound st.R (l.getD i.toNat 0)) = .ok t v → Sat E w (RDec d t :: RSet p (l.set i.toNat (B.next (l.getD i.toNat 0) v)) :: M) → Q (.tuple #[.int .i64 v, .int .i64 0]) w)
    (hre : ∀ e w, 0 ≤ i → i < l.length → st.bit (B.bound st.R (l.getD i.toNat 0)) = .no e → Sat E w (RDec d st :: RSet p l :: M) → Q (.tuple #[.int .i64 0, .int .i64 e]) w) :
    Calls Tryz.prog 204 #[.pointer (some ⟨d, 0, none⟩), .pointer (some ⟨p, 0, none⟩), .int .i64 i] w (retP Q) := by
  refine pithref08_Decoder_Bit.calls ?_
  unfold pithref08_Decoder_Bit.F
  refine pc_pithref06_Set_At (RAt_ok (hS.fd (RSet p)) i fun w hS => ?_)
  by_cases h : 0 ≤ i ∧ i < l.length
  rotate_left 1
  · simp only [if_neg h]
    repeat' (first | (refine pN_neq_s ?_ ?_ <;> intro hc <;> try (exfalso; first | omega | exact hc rfl | exact hc (by assumption) | exact absurd hc (by assumption))) | refine pIf_t ?_ | refine pN_v (hk := ?_) | fail)
    exact hno h _ hS.to
  simp only [if_pos h]
  obtain ⟨x, hx⟩ : ∃ x, l[i.toNat]? = some x := ⟨l[i.toNat]'(by omega), by simp⟩
  have hxe : l.getD i.toNat 0 = x := by rw [List.getD_eq_getElem?_getD, hx]; rfl
  rw [hxe] at hok hre ⊢
  have hxf := hf.get hx
  have hmid := D.bound_mid ho.r0 hxf.1 hxf.2
  have q1 := ho.r0
  have q2 := ho.r1
  have q3 := ho.c0
  have q4 := ho.c1
  have hco := ho.cut hmid.1 hmid.2
  have hc0 := B.bound_pos (rng := st.R) (p := x) q1 hxf.1
  have hc1 := B.bound_lt (rng := st.R) (p := x) q1
  have hv : st.bitAt (B.bound st.R x) = if st.C < B.bound st.R x then 0 else 1 := rfl
  have e1 : st.cut (B.bound st.R x) = if st.C < B.bound st.R x then ⟨st.b, st.k, B.bound st.R x, st.C⟩ else ⟨st.b, st.k, st.R - B.bound st.R x, st.C - B.bound st.R x⟩ := rfl
  obtain ⟨s, hS⟩ := RDec.opn (hS.fd (RDec d))
  repeat' (first | (refine pN_neq_s ?_ ?_ <;> intro hc <;> try (exfalso; first | omega | exact hc rfl | exact hc (by assumption) | exact absurd hc (by assumption))) | refine pIf_f ?_ | refine pN_l hS (by first | rfl | assumption) ?_ | refine pN_v (hk := ?_) | fail)
  refine pc_pithref06_Bound (RBound_ok st.R x (by omega) (by omega) ?_)
  repeat' (first | (refine pc_pithref08_Decoder_Fork (R8Fork_ok hS ?_); clear hS; intro f w hS) | refine pN_v (hk := ?_) | fail)
  refine ⟨fun v w => v = .int .i64 (st.bitAt (B.bound st.R x)) ∧ Sat E w (cel f (rdC s (st.cut (B.bound st.R x))) :: rows cd_uint8 s st.b :: cel d (rdC s st) :: RSet p l :: M), ?_, ?_⟩
  · by_cases hlt : st.C < B.bound st.R x
    · rw [if_pos hlt] at hv e1
      rw [hv, e1]
      repeat' (first | (refine pN_lss_s ?_ ?_ <;> intro hc <;> try (exfalso; omega)) | refine pIf_t ?_ | refine pN_l hS (by first | rfl | assumption) ?_ | (refine pN_s hS (by first | exact Nat.le_of_ble_eq_true rfl | assumption) (by rfl) ?_; clear hS; intro w hS; try simp only [List.set_cons_zero, List.set_cons_succ] at hS) | refine pN_v (hk := ?_) | fail)
      exact ⟨rfl, hS.fd2 (cel f) (rows cd_uint8 s)⟩
    · rw [if_neg hlt] at hv e1
      rw [hv, e1]
      repeat' (first | (refine pN_lss_s ?_ ?_ <;> intro hc <;> try (exfalso; omega)) | refine pIf_f ?_ | refine pN_l hS (by first | rfl | assumption) ?_ | (refine pN_s hS (by first | exact Nat.le_of_ble_eq_true rfl | assumption) (by rfl) ?_; clear hS; intro w hS; try simp only [List.set_cons_zero, List.set_cons_succ] at hS) | refine pN_v (hk := ?_) | fail)
      exact ⟨rfl, hS.fd2 (cel f) (rows cd_uint8 s)⟩
  clear hS
  rintro _ _ w ⟨rfl, hS⟩
  have hcb := hco.b
  have hcr := hco.r0
  have hS : Sat E w (cel f (rdC s (st.cut (B.bound st.R x))) :: rows cd_uint8 s (st.cut (B.bound st.R x)).b :: cel d (rdC s st) :: RSet p l :: M) := by rw [hcb]; exact hS
  refine pc_pithref08_Decoder_widen (R8widen_ok hS hco.k (by rw [hcb]; exact hb) (by omega) hco.c0 hco.c1 (fun t w ht hS => ?_) fun w hnone hS => ?_)
  · have htb := (D.widen_b ht).trans hcb
    repeat' (first | (refine pc_pithref06_Set_Turn (RTurn_ok (hS.fd (RSet p)) i _ ?_); clear hS; intro w hS) | refine pIf_f ?_ | refine pN_la hS (by rfl) ?_ | (refine pN_sa hS (by rfl) (by rfl) (by rfl) ?_; clear hS; intro w hS; try dsimp only at hS) | refine pN_v (hk := ?_) | fail)
    simp only [if_pos h, hxe] at hS
    refine hok t _ _ h.1 h.2 (by rw [D.S.bit, ht]) ?_
    have hS : Sat E w (cel d (rdC s t) :: rows cd_uint8 s t.b :: RSet p (l.set i.toNat (B.next x (st.bitAt (B.bound st.R x)))) :: M) := by
      rw [htb, ← hcb]
      exact (hS.fd2 (cel d) (rows cd_uint8 s)).to
    exact RDec.shut (d := d) (s := s) hS t rfl rfl
  · repeat' (first | refine pIf_t ?_ | refine pN_v (hk := ?_) | fail)
    have hS : Sat E w (cel d (rdC s st) :: rows cd_uint8 s st.b :: RSet p l :: M) := by
      rw [← hcb]
      exact (hS.fd2 (cel d) (rows cd_uint8 s)).to
    exact hre 1 _ h.1 h.2 (by rw [D.S.bit, hnone]) (RDec.shut (d := d) (s := s) hS st rfl rfl)

theorem R8Done_ok (hS : Sat E w (RDec d st :: M)) (hQ : ∀ w, Sat E w (RDec d st :: M) → Q (.bool (decide (st.k = st.b.length ∧ st.C = 0))) w) : Calls Tryz.prog 173 #[.pointer (some ⟨d, 0, none⟩)] w (retP Q) := by
  refine pithref08_Decoder_Done.calls ?_
  unfold pithref08_Decoder_Done.F
  obtain ⟨s, hS⟩ := RDec.opn hS
  have hQ := fun w h => hQ w (RDec.shut (d := d) (s := s) (L := cel d (rdC s st) :: rows cd_uint8 s st.b :: M) h st rfl rfl)
  by_cases h1 : st.k = st.b.length
  · by_cases h2 : st.C = 0
    · rw [decide_eq_true ⟨h1, h2⟩] at hQ
      repeat' (first | (refine pA_eql_s ?_ ?_ <;> intro hc <;> try (exfalso; first | omega | exact hc rfl | exact hc (by assumption) | exact absurd hc (by assumption))) | refine gA_go (by rfl) ?_ | refine pL_l hS (by first | rfl | assumption) ?_ | (refine pDr_go hS ?_; clear hS; intro w hS) | refine pA_v (hk := ?_) | fail)
      exact hQ _ hS
    · rw [decide_eq_false (fun h => h2 h.2)] at hQ
      repeat' (first | (refine pA_eql_s ?_ ?_ <;> intro hc <;> try (exfalso; first | omega | exact hc rfl | exact hc (by assumption) | exact absurd hc (by assumption))) | refine gA_go (by rfl) ?_ | refine pL_l hS (by first | rfl | assumption) ?_ | (refine pDr_go hS ?_; clear hS; intro w hS) | refine pA_v (hk := ?_) | fail)
      exact hQ _ hS
  · rw [decide_eq_false (fun h => h1 h.1)] at hQ
    repeat' (first | (refine pA_eql_s ?_ ?_ <;> intro hc <;> try (exfalso; first | omega | exact hc rfl | exact hc (by assumption) | exact absurd hc (by assumption))) | refine gA_no (by rfl) ?_ | refine pL_l hS (by first | rfl | assumption) ?_ | (refine pDr_go hS ?_; clear hS; intro w hS) | refine pA_v (hk := ?_) | fail)
    exact hQ _ hS

set_option maxHeartbeats 2000000 in
theorem R8Direct_ok (hS : Sat E w (RDec d st :: M)) (ho : D.Ok st) (hb : st.b.length ≤ 140737488355328) (n : Int)
    (hno : ¬ (0 ≤ n ∧ n ≤ 32) → ∀ w, Sat E w (RDec d st :: M) → Q (.tuple #[.int .u32 0, .int .i64 7]) w)
    (hok : ∀ t v w, 0 ≤ n → n ≤ 32 → st.direct 0 n.toNat = .ok t v → Sat E w (RDec d t :: M) → Q (.tuple #[.int .u32 v, .int .i64 0]) w)
    (hre : ∀ e w, 0 ≤ n → n ≤ 32 → st.direct 0 n.toNat = .no e → Sat E w (RDec d st :: M) → Q (.tuple #[.int .u32 0, .int .i64 e]) w) :
    Calls Tryz.prog 207 #[.pointer (some ⟨d, 0, none⟩), .int .i64 n] w (retP Q) := by
  refine pithref08_Decoder_Direct.calls ?_
  unfold pithref08_Decoder_Direct.F
  by_cases h : 0 ≤ n ∧ n ≤ 32
  rotate_left 1
  · repeat' (first | ((first | refine pN_lss_s ?_ ?_ | refine pN_gtr_s ?_ ?_) <;> intro hc <;> try (exfalso; omega)) | refine pIf_t ?_ | refine pGd_go (by rfl) ?_ | refine pGd_no (by rfl) ?_ | refine pN_v (hk := ?_) | fail)
    all_goals exact hno h _ hS.to
  obtain ⟨m, rfl⟩ : ∃ m : Nat, n = m := ⟨n.toNat, by omega⟩
  rw [Int.toNat_natCast] at hok hre
  obtain ⟨s, hS⟩ := RDec.opn hS
  repeat' (first | (refine pc_pithref08_Decoder_Fork (R8Fork_ok hS ?_); clear hS; intro f w hS) | ((first | refine pN_lss_s ?_ ?_ | refine pN_gtr_s ?_ ?_) <;> intro hc <;> try (exfalso; omega)) | refine pIf_f ?_ | refine pGd_go (by rfl) ?_ | refine pN_v (hk := ?_) | fail)
  refine ⟨fun c i w => ∃ (j : Nat) (t : D.S) (v : Int), c = .int .i64 v ∧ i = .int .i64 j ∧ j ≤ m ∧ D.Ok t ∧ t.b = st.b ∧ 0 ≤ v ∧ v < 2 ^ j ∧ t.direct v (m - j) = st.direct 0 m ∧ Sat E w (cel f (rdC s t) :: rows cd_uint8 s st.b :: cel d (rdC s st) :: M), fun _ i _ => m - (RowKit.intOf i).toNat, ⟨0, st, 0, rfl, rfl, Nat.zero_le _, ho, rfl, by omega, by simp, rfl, hS.to⟩, ?_⟩
  clear hS
  rintro _ _ _ w ⟨j, t, v, rfl, rfl, hj, hot, htb, v0, v1, htd, hS⟩
  by_cases hlt : j < m
  · rw [show m - j = (m - (j + 1)) + 1 from by omega, D.S.direct] at htd
    have h32 : (2 : Int) ^ j ≤ 2147483648 := by
      have : (2 : Int) ^ 31 = 2147483648 := by decide
      rw [← this]
      exact R.two_le (by omega)
    have q0 := hot.r0
    have q1 := hot.r1
    have q2 := hot.c0
    have q3 := hot.c1
    have one := hot.one
    have o1 := one.c1
    have hbit : t.bitAt (t.R / 2) = if t.C < t.R / 2 then 0 else 1 := rfl
    have e1 : t.one = if t.C < t.R / 2 then ⟨t.b, t.k, t.R / 2, t.C⟩ else ⟨t.b, t.k, t.R / 2, t.C - t.R / 2⟩ := rfl
    have oR : t.one.R = t.R / 2 := by rw [e1]; split <;> rfl
    have ob := one.b
    have o0 := one.r0
    have oc := one.c0
    repeat' (first | (refine pN_lss_s ?_ ?_ <;> intro hc <;> try (exfalso; omega)) | refine pIf_t ?_ | fail)
    refine ⟨fun c w => ∃ t2 : D.S, c = .int .i64 (2 * v + t.bitAt (t.R / 2)) ∧ t.one.widen = some t2 ∧ ¬ t.one.R ≤ t.one.C ∧ Sat E w (cel f (rdC s t2) :: rows cd_uint8 s st.b :: cel d (rdC s st) :: M), ?_, ?_⟩
    rotate_left 1
    · clear hS
      rintro _ _ w ⟨t2, rfl, ht2, hnle, hS⟩
      rw [if_neg hnle, ht2] at htd
      have ho2 := one.widen (by omega) ht2
      have hb01 := D.bitAt_01 t (t.R / 2)
      repeat' (first | refine pN_v (hk := ?_) | fail)
      exact ⟨⟨j + 1, t2, 2 * v + t.bitAt (t.R / 2), rfl, rfl, by omega, ho2.1, ho2.2.trans htb, by omega, by rw [Int.pow_succ]; omega, htd, hS⟩, by simp [RowKit.intOf] <;> omega⟩
    repeat' (first | refine pN_l hS (by first | rfl | assumption) ?_ | (refine pN_s hS (by first | exact Nat.le_of_ble_eq_true rfl | assumption) (by rfl) ?_; clear hS; intro w hS; try simp only [List.set_cons_zero, List.set_cons_succ] at hS) | refine pN_v (hk := ?_) | fail)
    refine ⟨fun c w => c = .int .i64 (2 * v + t.bitAt (t.R / 2)) ∧ Sat E w (cel f (rdC s t.one) :: rows cd_uint8 s st.b :: cel d (rdC s st) :: M), ?_, ?_⟩
    · by_cases hge : t.C < t.R / 2
      · rw [if_pos hge] at hbit e1
        rw [hbit, e1, Int.add_zero]
        repeat' (first | (refine pA_geq_s ?_ ?_ <;> intro hc <;> try (exfalso; omega)) | refine pIf_f ?_ | refine pL_l hS (by first | rfl | assumption) ?_ | (refine pDr_go hS ?_; clear hS; intro w hS) | refine pA_v (hk := ?_) | fail)
        exact ⟨rfl, hS.to⟩
      · rw [if_neg hge] at hbit e1
        rw [hbit, e1]
        repeat' (first | (refine pA_geq_s ?_ ?_ <;> intro hc <;> try (exfalso; omega)) | refine pIf_t ?_ | refine pL_l hS (by first | rfl | assumption) ?_ | (refine pN_s hS (by first | exact Nat.le_of_ble_eq_true rfl | assumption) (by rfl) ?_; clear hS; intro w hS; try simp only [List.set_cons_zero, List.set_cons_succ] at hS) | (refine pDr_go hS ?_; clear hS; intro w hS) | refine ⟨trivial, ?_⟩ | refine pN_v (hk := ?_) | refine pA_v (hk := ?_) | fail)
        exact ⟨rfl, hS.to⟩
    clear hS
    rintro _ _ w ⟨rfl, hS⟩
    have hS : Sat E w (cel f (rdC s t.one) :: rows cd_uint8 s t.one.b :: cel d (rdC s st) :: M) := by rw [ob, htb]; exact hS
    by_cases hle : t.one.R ≤ t.one.C
    · rw [if_pos hle] at htd
      repeat' (first | (refine pA_geq_s ?_ ?_ <;> intro hc <;> try (exfalso; omega)) | refine pIf_t ?_ | refine pL_l hS (by first | rfl | assumption) ?_ | (refine pDr_go hS ?_; clear hS; intro w hS) | refine pA_v (hk := ?_) | fail)
      have hS : Sat E w (cel d (rdC s st) :: rows cd_uint8 s st.b :: M) := by rw [← htb, ← ob]; exact (hS.fd2 (cel d) (rows cd_uint8 s)).to
      exact hre 2 _ h.1 h.2 htd.symm (RDec.shut (d := d) (s := s) hS st rfl rfl)
    · rw [if_neg hle] at htd
      repeat' (first | (refine pA_geq_s ?_ ?_ <;> intro hc <;> try (exfalso; omega)) | refine pIf_f ?_ | refine pL_l hS (by first | rfl | assumption) ?_ | (refine pDr_go hS ?_; clear hS; intro w hS) | refine pA_v (hk := ?_) | fail)
      refine pc_pithref08_Decoder_widen (R8widen_ok (hS.fd2 (cel f) (rows cd_uint8 s)) one.k (by rw [ob, htb]; exact hb) (by omega) oc (by omega) (fun t2 w ht2 hS => ?_) fun w hnone hS => ?_)
      · repeat' (first | refine pIf_f ?_ | refine pN_v (hk := ?_) | fail)
        rw [ob, htb] at hS
        exact ⟨t2, rfl, ht2, hle, hS⟩
      · rw [hnone] at htd
        repeat' (first | refine pIf_t ?_ | refine pN_v (hk := ?_) | fail)
        have hS : Sat E w (cel d (rdC s st) :: rows cd_uint8 s st.b :: M) := by rw [← htb, ← ob]; exact (hS.fd2 (cel d) (rows cd_uint8 s)).to
        exact hre 1 _ h.1 h.2 htd.symm (RDec.shut (d := d) (s := s) hS st rfl rfl)
  · obtain rfl : j = m := by omega
    rw [Nat.sub_self, D.S.direct] at htd
    have h32 : (2 : Int) ^ j ≤ 4294967296 := by
      have : (2 : Int) ^ 32 = 4294967296 := by decide
      rw [← this]
      exact R.two_le (by omega)
    repeat' (first | (refine pN_lss_s ?_ ?_ <;> intro hc <;> try (exfalso; omega)) | refine pIf_f ?_ | refine pN_la hS (by rfl) ?_ | (refine pN_sa hS (by rfl) (by rfl) (by rfl) ?_; clear hS; intro w hS; try dsimp only at hS) | refine pN_v (hk := ?_) | fail)
    have er : rows cd_uint8 s st.b = rows cd_uint8 s t.b := by rw [htb]
    rw [er] at hS
    have hS : Sat E w (cel d (rdC s t) :: rows cd_uint8 s t.b :: cel f (rdC s t) :: M) := hS.fd2 (cel d) (rows cd_uint8 s)
    have hS : Sat E w (cel d (rdC s t) :: rows cd_uint8 s t.b :: M) := hS.to
    exact hok t v _ h.1 h.2 htd.symm (RDec.shut (d := d) (s := s) hS t rfl rfl)

theorem R8New_ok {s0 : Sl} {l : List UInt8} (hS : Sat E w M) [hr : Rds cd_uint8 M s0 l] (hb : l.length ≤ 140737488355328)
    (hok : ∀ t d w, D.start l = .ok t () → Sat E w (RDec d t :: M) → Q (.tuple #[.pointer (some ⟨d, 0, none⟩), .int .i64 0]) w)
    (hre : ∀ e w, D.start l = .no e → Sat E w M → Q (.tuple #[.pointer none, .int .i64 e]) w) :
    Calls Tryz.prog 171 #[.slice s0.a l.length s0.c] w (retP Q) := by
  refine pithref08_New.calls ?_
  unfold pithref08_New.F
  by_cases h5 : l.length < 5
  · repeat' (first | (refine pN_lss_s ?_ ?_ <;> intro hc <;> try (exfalso; omega)) | refine pIf_t ?_ | refine pN_v (hk := ?_) | fail)
    exact hre 1 _ (by rw [D.start, if_pos h5]) hS
  obtain ⟨b0, hb0⟩ : ∃ x, l[0]? = some x := ⟨l[0]'(by omega), by simp⟩
  repeat' (first | (refine pN_lss_s ?_ ?_ <;> intro hc <;> try (exfalso; omega)) | refine pIf_f ?_ | refine pN_v (hk := ?_) | fail)
  refine ⟨fun c v w => ∃ i : Nat, c = .int .i64 (D.front l i) ∧ v = .int .i64 ((i + 1 : Nat) : Int) ∧ i ≤ 4 ∧ Sat E w M, fun _ v _ => 5 - (RowKit.intOf v).toNat, ⟨0, by rw [D.front_0], rfl, by omega, hS⟩, ?_⟩
  clear hS
  rintro _ _ _ w ⟨i, rfl, rfl, hi, hS⟩
  by_cases hlt : i < 4
  · obtain ⟨x, hx⟩ : ∃ x, l[i + 1]? = some x := ⟨l[i + 1]'(by omega), by simp⟩
    have hx2 := x.toNat_lt
    have hfs := D.front_succ l i hx
    have hf3 := D.front_lt l i (by omega)
    have e3 : 256 * D.front l i + (x.toNat : Int) = D.front l (i + 1) := by rw [hfs, Int.mul_comm]
    repeat' (first | (refine pN_lss_s ?_ ?_ <;> intro hc <;> try (exfalso; omega)) | refine pIf_t ?_ | refine pN_ofb ?_ | refine pN_ld1 ha hS ?_ | refine pN_ixk hS _ (by first | rfl | (exact (Int.toNat_of_nonneg (by omega)).symm)) (by first | rfl | omega | simpa only [go_sem] using True.intro | (simp only [go_sem]; omega)) (by assumption) fun a ha hel => ?_ | refine pN_v (hk := ?_) | fail)
    rw [e3]
    exact ⟨⟨i + 1, rfl, rfl, by omega, hS⟩, by simp [RowKit.intOf] <;> omega⟩
  · obtain rfl : i = 4 := by omega
    have hf4 := D.front_bd l 4 (by omega)
    have h4 : (256 : Int) ^ 4 = 4294967296 := by decide
    have hst : D.start l = if b0 ≠ 0 ∨ D.front l 4 = 4294967295 then .no 2 else .ok ⟨l, 5, 4294967295, D.front l 4⟩ () := by
      rw [D.start, if_neg h5, hb0]; simp
    have hbe : b0 = 0 ↔ (b0.toNat : Int) = ((0 : UInt8).toNat : Int) := ⟨fun e => by rw [e], fun e => UInt8.toNat_inj.1 (by omega)⟩
    repeat' (first | (refine pN_lss_s ?_ ?_ <;> intro hc <;> try (exfalso; omega)) | ((first | refine pN_eql_s ?_ ?_ | refine pN_neq_s ?_ ?_) <;> intro hc <;> try (exfalso; first | omega | exact hc rfl | exact hc (by assumption) | exact absurd hc (by assumption))) | refine pIf_t ?_ | refine pIf_f ?_ | refine pGd_go (by rfl) ?_ | refine pGd_no (by rfl) ?_ | refine pN_l hS (by first | rfl | assumption) ?_ | refine pN_ld1 ha hS ?_ | (refine pN_s hS (by first | exact Nat.le_of_ble_eq_true rfl | assumption) (by rfl) ?_; clear hS; intro w hS; try simp only [List.set_cons_zero, List.set_cons_succ] at hS) | (refine pN_bx hS (by rfl) ?_; clear hS; intro a w hS) | refine pN_ixk hS _ (by first | rfl | (exact (Int.toNat_of_nonneg (by omega)).symm)) (by first | rfl | omega | simpa only [go_sem] using True.intro | (simp only [go_sem]; omega)) (by assumption) fun a ha hel => ?_ | (refine pN_app0 hS (by first | rfl | omega | simpa only [go_sem] using True.intro | (simp only [go_sem]; omega)) (by first | omega | (simp only [go_sem]; omega)) ?_; clear hS; intro s w hS) | refine pN_v (hk := ?_) | fail)
    · exact hre 2 _ (by rw [hst, if_pos (.inr hc)]) hS
    · have hS := RDec.shut (d := a) (s := s) hS ⟨l, 5, 4294967295, D.front l 4⟩ rfl rfl
      refine hok ⟨l, 5, 4294967295, D.front l 4⟩ _ _ ?_ hS
      rw [hst, if_neg]
      rintro (h | h)
      · exact h (hbe.2 (by assumption))
      · exact hc h
    · exact hre 2 _ (by rw [hst, if_pos (.inl fun e => hc (hbe.1 e))]) hS
end

end Go.Proofs.YtbgnnjfpiblkmaaGreatDoor

namespace Go.Proofs.YtbgnnjfpiblkmaaGreatDoor
open Go
end Go.Proofs.YtbgnnjfpiblkmaaGreatDoor

namespace Go.Proofs.YtbgnnjfpiblkmaaGreatDoor
open Go
set_option maxRecDepth 100000

def lzdec_Decoder_Take.F [Pan] (x0 x1 x2 : Value) (w : World) (Q : Value → World → Prop) : Prop :=
 pN Tryz.prog (oBin .lss 3 (.tmp 12) (.const (.int .i64 1)) x2 (.int .i64 1)) w fun x13 w1 =>
 pGd (gB x13 false) (pN Tryz.prog (oMv x2) w1) w1 fun x15 w2 =>
 pGd (gB x13 false) (pN Tryz.prog (oBin .gtr 3 (.tmp 15) (.const (.int .i64 2097152)) x15 (.int .i64 2097152)) w2) w2 fun x16 w3 =>
 pN Tryz.prog (oPick x13 (.bool true) x16) w3 fun x17 w4 =>
 pIf x17
 (Q (.tuple #[(.slice none 0 0), (.slice none 0 0), (.int .i64 7)]) w4)
 (pN Tryz.prog (oNil x0) w4 fun x19 w5 =>
 pN Tryz.prog (oFld 171 x19 2) w5 fun x20 w6 =>
 pN Tryz.prog (oLoad 4 x20) w6 fun x21 w7 =>
 pIf x21
 (Q (.tuple #[(.slice none 0 0), (.slice none 0 0), (.int .i64 2)]) w7)
 (pN Tryz.prog (oCall 91 [x0, x1, x2]) w7 fun x26 w8 =>
 pN Tryz.prog (oExt x26 0) w8 fun x27 w9 =>
 pN Tryz.prog (oExt x26 1) w9 fun x28 w10 =>
 pN Tryz.prog (oExt x26 2) w10 fun x29 w11 =>
 pN Tryz.prog (oUn .not x29) w11 fun x31 w12 =>
 pIf x31
 (pN Tryz.prog (oNil x0) w12 fun x33 w13 =>
 pN Tryz.prog (oFld 171 x33 2) w13 fun x34 w14 =>
 pN Tryz.prog (oStore 4 x34 (.bool true)) w14 fun _ w15 =>
 Q (.tuple #[(.slice none 0 0), (.slice none 0 0), (.int .i64 2)]) w15)
 (Q (.tuple #[x27, x28, (.int .i64 0)]) w12)))
theorem lzdec_Decoder_Take.calls [Pan] {x0 x1 x2 : Value} {w : World} {Q : Value → World → Prop} (h : lzdec_Decoder_Take.F x0 x1 x2 w Q) : Calls Tryz.prog 39 #[x0, x1, x2] w (retP Q) := calls_lift mixed .z [x0, x1, x2] Tryz.func39 (by kernel_rfl) (by kernel_rfl) h

def lzdec_New.F [Pan] (x0 x1 : Value) (w : World) (Q : Value → World → Prop) : Prop :=
 pN Tryz.prog (oBox 23 x0) w fun x2 w1 =>
 pN Tryz.prog (oLoad 23 x2) w1 fun x11 w2 =>
 pN Tryz.prog (oCall 45 [x11]) w2 fun x12 w3 =>
 pN Tryz.prog (oExt x12 0) w3 fun _ w4 =>
 pN Tryz.prog (oExt x12 1) w4 fun x14 w5 =>
 pN Tryz.prog (oBin .neq 38 (.tmp 15) (.const (.int .i64 0)) x14 (.int .i64 0)) w5 fun x16 w6 =>
 pIf x16
 (Q (.tuple #[(.pointer none), x14]) w6)
 (pN Tryz.prog (oCall 42 [x1]) w6 fun x20 w7 =>
 pN Tryz.prog (oExt x20 0) w7 fun x21 w8 =>
 pN Tryz.prog (oExt x20 1) w8 fun x22 w9 =>
 pN Tryz.prog (oBin .neq 38 (.tmp 23) (.const (.int .i64 0)) x22 (.int .i64 0)) w9 fun x24 w10 =>
 pIf x24
 (Q (.tuple #[(.pointer none), x22]) w10)
 (pN Tryz.prog (oLoad 23 x2) w10 fun x26 w11 =>
 pN Tryz.prog (oCall 61 [x26]) w11 fun x27 w12 =>
 pN Tryz.prog (oBuild 171 [(0, x27), (1, x21)]) w12 fun x29 w13 =>
 pN Tryz.prog (oBox 171 x29) w13 fun x30 w14 =>
 Q (.tuple #[x30, (.int .i64 0)]) w14))
theorem lzdec_New.calls [Pan] {x0 x1 : Value} {w : World} {Q : Value → World → Prop} (h : lzdec_New.F x0 x1 w Q) : Calls Tryz.prog 41 #[x0, x1] w (retP Q) := calls_lift mixed .z [x0, x1] Tryz.func41 (by kernel_rfl) (by kernel_rfl) h

def lzdec_Decoder_Raw.F [Pan] (x0 x1 : Value) (w : World) (Q : Value → World → Prop) : Prop :=
 pN Tryz.prog (oNil x0) w fun x5 w1 =>
 pN Tryz.prog (oFld 171 x5 1) w1 fun x6 w2 =>
 pN Tryz.prog (oLoad 97 x6) w2 fun x7 w3 =>
 pN Tryz.prog (oCall 46 [x7, x1]) w3 fun _ w4 =>
 Q (.tuple #[]) w4
theorem lzdec_Decoder_Raw.calls [Pan] {x0 x1 : Value} {w : World} {Q : Value → World → Prop} (h : lzdec_Decoder_Raw.F x0 x1 w Q) : Calls Tryz.prog 51 #[x0, x1] w (retP Q) := calls_lift mixed .z [x0, x1] Tryz.func51 (by kernel_rfl) (by kernel_rfl) h

def lzdec_Decoder_Reset.H : Hints := { cut := fun | 4 => some ([], 520192) | _ => none, loop := fun  | _ => ([], 0), order := fun  | _ => [] }
def lzdec_Decoder_Reset.F [Pan] (x0 x1 : Value) (w : World) (Q : Value → World → Prop) : Prop :=
 pN Tryz.prog (oBox 23 x1) w fun x3 w1 =>
 pN Tryz.prog (oLoad 23 x3) w1 fun x8 w2 =>
 pN Tryz.prog (oCall 45 [x8]) w2 fun x9 w3 =>
 pN Tryz.prog (oExt x9 0) w3 fun _ w4 =>
 pN Tryz.prog (oExt x9 1) w4 fun x11 w5 =>
 ∃ I4 : World → Prop,
 (pN Tryz.prog (oBin .eql 38 (.tmp 12) (.const (.int .i64 0)) x11 (.int .i64 0)) w5 fun x13 w6 =>
 pIf x13
 (pN Tryz.prog (oLoad 23 x3) w6 fun x15 w7 =>
 pN Tryz.prog (oCall 61 [x15]) w7 fun x16 w8 =>
 pN Tryz.prog (oNil x0) w8 fun x17 w9 =>
 pN Tryz.prog (oFld 171 x17 0) w9 fun x18 w10 =>
 pN Tryz.prog (oStore 123 x18 x16) w10 fun _ w11 =>
 I4 w11)
 (I4 w6)) ∧
 ∀ (_j4 : Env) (w12 : World), I4 w12 →
 Q x11 w12
theorem lzdec_Decoder_Reset.calls [Pan] {x0 x1 : Value} {w : World} {Q : Value → World → Prop} (h : lzdec_Decoder_Reset.F x0 x1 w Q) : Calls Tryz.prog 52 #[x0, x1] w (retP Q) := calls_lift mixed lzdec_Decoder_Reset.H [x0, x1] Tryz.func52 (by kernel_rfl) (by kernel_rfl) h

def lzdec_Decoder_Clear.F [Pan] (x0 : Value) (w : World) (Q : Value → World → Prop) : Prop :=
 pN Tryz.prog (oNil x0) w fun x4 w1 =>
 pN Tryz.prog (oFld 171 x4 0) w1 fun x5 w2 =>
 pN Tryz.prog (oLoad 123 x5) w2 fun x6 w3 =>
 pN Tryz.prog (oNil x6) w3 fun x7 w4 =>
 pN Tryz.prog (oFld 141 x7 0) w4 fun x8 w5 =>
 pN Tryz.prog (oLoad 23 x8) w5 fun x9 w6 =>
 pN Tryz.prog (oCall 61 [x9]) w6 fun x10 w7 =>
 pN Tryz.prog (oNil x0) w7 fun x11 w8 =>
 pN Tryz.prog (oFld 171 x11 0) w8 fun x12 w9 =>
 pN Tryz.prog (oStore 123 x12 x10) w9 fun _ w10 =>
 pN Tryz.prog (oNil x0) w10 fun x14 w11 =>
 pN Tryz.prog (oFld 171 x14 1) w11 fun x15 w12 =>
 pN Tryz.prog (oLoad 97 x15) w12 fun x16 w13 =>
 pN Tryz.prog (oCall 47 [x16]) w13 fun _ w14 =>
 pN Tryz.prog (oNil x0) w14 fun x19 w15 =>
 pN Tryz.prog (oFld 171 x19 2) w15 fun x20 w16 =>
 pN Tryz.prog (oStore 4 x20 (.bool false)) w16 fun _ w17 =>
 Q (.tuple #[]) w17
theorem lzdec_Decoder_Clear.calls [Pan] {x0 : Value} {w : World} {Q : Value → World → Prop} (h : lzdec_Decoder_Clear.F x0 w Q) : Calls Tryz.prog 53 #[x0] w (retP Q) := calls_lift mixed .z [x0] Tryz.func53 (by kernel_rfl) (by kernel_rfl) h

def lzdec_Decoder_all.H : Hints := { cut := fun  | _ => none, loop := fun | 6 => ([10, 11], 302231454903657291644352) | _ => ([], 0), order := fun | 13 => [(0, 0), (1, 1), (2, 3), (3, 7), (4, 15), (5, 31), (6, 63), (7, 127)] | _ => [] }
def lzdec_Decoder_all.F [Pan] (x0 x1 x2 : Value) (w : World) (Q : Value → World → Prop) : Prop :=
 pN Tryz.prog (oCall 133 [x0, x1]) w fun x18 w1 =>
 pN Tryz.prog (oBin .eql 230 (.tmp 19) (.const (.pointer none)) x18 (.pointer none)) w1 fun x20 w2 =>
 pIf x20
 (Q (.tuple #[(.slice none 0 0), (.slice none 0 0), (.bool false)]) w2)
 (∃ (L6 : Value → Value → World → Prop) (m6 : Value → Value → World → Nat),
 L6 (.slice none 0 0) (.slice none 0 0) w2 ∧
 ∀ (_k6 : Env) (l10l6 : Value) (out11l6 : Value) (w3 : World), L6 l10l6 out11l6 w3 →
 pN Tryz.prog (oBi .len #[30] 3 [false] [out11l6]) w3 fun x22 w4 =>
 pN Tryz.prog (oBin .lss 3 (.tmp 22) (.tmp 23) x22 x2) w4 fun x24 w5 =>
 pIf x24
 (pN Tryz.prog (oCall 134 [x18]) w5 fun x26 w6 =>
 pN Tryz.prog (oAlloc 48) w6 fun x12 w7 =>
 pN Tryz.prog (oStore 48 x12 x26) w7 fun _ w8 =>
 pN Tryz.prog (oNil x18) w8 fun x28 w9 =>
 pN Tryz.prog (oFld 233 x28 2) w9 fun x29 w10 =>
 pN Tryz.prog (oLoad 4 x29) w10 fun x30 w11 =>
 pGd (gB x30 false) (pN Tryz.prog (oLoad 48 x12) w11) w11 fun x32 w12 =>
 pGd (gB x30 false) (pN Tryz.prog (oCall 94 [x32]) w12) w12 fun x33 w13 =>
 pGd (gB x30 false) (pN Tryz.prog (oBin .lss 3 (.tmp 33) (.const (.int .i64 1)) x33 (.int .i64 1)) w13) w13 fun x34 w14 =>
 pN Tryz.prog (oPick x30 (.bool true) x34) w14 fun x35 w15 =>
 pGd (gB x35 false) (pN Tryz.prog (oLoad 48 x12) w15) w15 fun x37 w16 =>
 pGd (gB x35 false) (pN Tryz.prog (oCall 94 [x37]) w16) w16 fun x38 w17 =>
 pGd (gB x35 false) (pN Tryz.prog (oMv x2) w17) w17 fun x39 w18 =>
 pGd (gB x35 false) (pN Tryz.prog (oMv out11l6) w18) w18 fun x40 w19 =>
 pGd (gB x35 false) (pN Tryz.prog (oBi .len #[30] 3 [false] [x40]) w19) w19 fun x41 w20 =>
 pGd (gB x35 false) (pN Tryz.prog (oBin .sub 3 (.tmp 39) (.tmp 41) x39 x41) w20) w20 fun x42 w21 =>
 pGd (gB x35 false) (pN Tryz.prog (oBin .gtr 3 (.tmp 38) (.tmp 42) x38 x42) w21) w21 fun x43 w22 =>
 pN Tryz.prog (oPick x35 (.bool true) x43) w22 fun x44 w23 =>
 pIf x44
 (Q (.tuple #[(.slice none 0 0), (.slice none 0 0), (.bool false)]) w23)
 (pDr w23 fun w24 =>
 pA Tryz.prog (oNil x0) fun x47 =>
 pA Tryz.prog (oFld 171 x47 1) fun x48 =>
 pL Tryz.prog (oLoad 97 x48) w24 fun x49 =>
 pA Tryz.prog (oNil x0) fun x51 =>
 pA Tryz.prog (oFld 171 x51 0) fun x52 =>
 pL Tryz.prog (oLoad 123 x52) w24 fun x53 =>
 pA Tryz.prog (oNil x53) fun x54 =>
 pA Tryz.prog (oFld 141 x54 1) fun x55 =>
 pL Tryz.prog (oLoad 100 x55) w24 fun x56 =>
 pL Tryz.prog (oLoad 48 x12) w24 fun x57 =>
 (pN Tryz.prog (oCall 48 [x49, x56, x57]) w24 fun x58 w25 =>
 (True) ∧ (pA Tryz.prog (oExt x58 0) fun x59 =>
 pA Tryz.prog (oExt x58 1) fun x60 =>
 pA Tryz.prog (oExt x58 2) fun x61 =>
 pN Tryz.prog (oAlloc 100) w25 fun x14 w26 =>
 (True) ∧ (pN Tryz.prog (oStore 100 x14 x60) w26 fun _ w27 =>
 (True) ∧ (pN Tryz.prog (oBin .neq 38 (.tmp 62) (.const (.int .i64 0)) x61 (.int .i64 0)) w27 fun x63 w28 =>
 pIf x63
 (Q (.tuple #[(.slice none 0 0), (.slice none 0 0), (.bool false)]) w28)
 (pDr w28 fun w29 =>
 pA Tryz.prog (oNil x0) fun x65 =>
 pA Tryz.prog (oFld 171 x65 0) fun x66 =>
 pL Tryz.prog (oLoad 123 x66) w29 fun x67 =>
 pL Tryz.prog (oLoad 100 x14) w29 fun x68 =>
 pA Tryz.prog (oNil x67) fun x69 =>
 pA Tryz.prog (oFld 141 x69 1) fun x70 =>
 pN Tryz.prog (oStore 100 x70 x68) w29 fun _ w30 =>
 (True) ∧ (pN Tryz.prog (oLoad 48 x12) w30 fun x72 w31 =>
 pN Tryz.prog (oBs 80 1 [(0, x72)]) w31 fun x73 w32 =>
 pN Tryz.prog (oBi .append #[80, 80] 80 [false, false] [l10l6, x73]) w32 fun x74 w33 =>
 pN Tryz.prog (oBi .append #[30, 30] 30 [false, false] [out11l6, x59]) w33 fun x77 w34 =>
 (L6 x74 x77 w34 ∧ m6 x74 x77 w34 < m6 l10l6 out11l6 w3))))))) ∧ (pN Tryz.prog (oAlloc 100) w24 fun x14 w35 =>
 ((Sem.run Tryz.prog (oLoad 48 x12) w35 = .ok (.value x57) w35) ∧ (Sem.run Tryz.prog (oLoad 100 x55) w35 = .ok (.value x56) w35) ∧ (Sem.run Tryz.prog (oLoad 123 x52) w35 = .ok (.value x53) w35) ∧ (Sem.run Tryz.prog (oLoad 97 x48) w35 = .ok (.value x49) w35) ∧ True) ∧ (pN Tryz.prog (oCall 48 [x49, x56, x57]) w35 fun x58 w36 =>
 (True) ∧ (pA Tryz.prog (oExt x58 0) fun x59 =>
 pA Tryz.prog (oExt x58 1) fun x60 =>
 pA Tryz.prog (oExt x58 2) fun x61 =>
 pN Tryz.prog (oStore 100 x14 x60) w36 fun _ w37 =>
 (True) ∧ (pN Tryz.prog (oBin .neq 38 (.tmp 62) (.const (.int .i64 0)) x61 (.int .i64 0)) w37 fun x63 w38 =>
 pIf x63
 (Q (.tuple #[(.slice none 0 0), (.slice none 0 0), (.bool false)]) w38)
 (pDr w38 fun w39 =>
 pA Tryz.prog (oNil x0) fun x65 =>
 pA Tryz.prog (oFld 171 x65 0) fun x66 =>
 pL Tryz.prog (oLoad 123 x66) w39 fun x67 =>
 pL Tryz.prog (oLoad 100 x14) w39 fun x68 =>
 pA Tryz.prog (oNil x67) fun x69 =>
 pA Tryz.prog (oFld 141 x69 1) fun x70 =>
 pN Tryz.prog (oStore 100 x70 x68) w39 fun _ w40 =>
 (True) ∧ (pN Tryz.prog (oLoad 48 x12) w40 fun x72 w41 =>
 pN Tryz.prog (oBs 80 1 [(0, x72)]) w41 fun x73 w42 =>
 pN Tryz.prog (oBi .append #[80, 80] 80 [false, false] [l10l6, x73]) w42 fun x74 w43 =>
 pN Tryz.prog (oBi .append #[30, 30] 30 [false, false] [out11l6, x59]) w43 fun x77 w44 =>
 (L6 x74 x77 w44 ∧ m6 x74 x77 w44 < m6 l10l6 out11l6 w3)))))))))
 (pN Tryz.prog (oNil x18) w5 fun x81 w45 =>
 pN Tryz.prog (oFld 233 x81 1) w45 fun x82 w46 =>
 pN Tryz.prog (oLoad 76 x82) w46 fun x83 w47 =>
 pN Tryz.prog (oCall 90 [x83]) w47 fun x84 w48 =>
 Q (.tuple #[l10l6, out11l6, x84]) w48))
theorem lzdec_Decoder_all.calls [Pan] {x0 x1 x2 : Value} {w : World} {Q : Value → World → Prop} (h : lzdec_Decoder_all.F x0 x1 x2 w Q) : Calls Tryz.prog 91 #[x0, x1, x2] w (retP Q) := calls_lift mixed lzdec_Decoder_all.H [x0, x1, x2] Tryz.func91 (by kernel_rfl) (by kernel_rfl) h

def lzdec_newReader.F [Pan] (x0 x1 : Value) (w : World) (Q : Value → World → Prop) : Prop :=
 pN Tryz.prog (oCall 87 [x1]) w fun x9 w1 =>
 pN Tryz.prog (oExt x9 0) w1 fun x10 w2 =>
 pN Tryz.prog (oExt x9 1) w2 fun x11 w3 =>
 pN Tryz.prog (oBin .neq 38 (.tmp 12) (.const (.int .i64 0)) x11 (.int .i64 0)) w3 fun x13 w4 =>
 pIf x13
 (Q (.pointer none) w4)
 (pN Tryz.prog (oBuild 233 [(0, x0), (1, x10)]) w4 fun x16 w5 =>
 pN Tryz.prog (oBox 233 x16) w5 fun x17 w6 =>
 Q x17 w6)
theorem lzdec_newReader.calls [Pan] {x0 x1 : Value} {w : World} {Q : Value → World → Prop} (h : lzdec_newReader.F x0 x1 w Q) : Calls Tryz.prog 133 #[x0, x1] w (retP Q) := calls_lift mixed .z [x0, x1] Tryz.func133 (by kernel_rfl) (by kernel_rfl) h

def lzdec_reader_symbol.H : Hints := { cut := fun | 14 => some ([6], 91343851992899065466791838581393081296727572544) | _ => none, loop := fun  | _ => ([], 0), order := fun | 1 => [(0, 0), (1, 1), (2, 3), (3, 7), (4, 15), (5, 31), (6, 63), (7, 127), (8, 255), (9, 511), (10, 1023), (11, 2047), (12, 4095), (13, 8191), (14, 16383), (15, 32767), (16, 65535), (17, 131071), (18, 262143), (19, 524287), (20, 1048575), (21, 2097151), (22, 4194303), (23, 8388607), (24, 16777215), (25, 33554431), (26, 67108863), (27, 134217727), (28, 268435455)] | _ => [] }
def lzdec_reader_symbol.F [Pan] (x0 : Value) (w : World) (Q : Value → World → Prop) : Prop :=
 pN Tryz.prog (oAlloc 48) w fun x2 w1 =>
 pDr w1 fun w2 =>
 pA Tryz.prog (oNil x0) fun x8 =>
 pA Tryz.prog (oFld 233 x8 0) fun x9 =>
 pL Tryz.prog (oLoad 85 x9) w2 fun x10 =>
 pA Tryz.prog (oNil x10) fun x11 =>
 pA Tryz.prog (oFld 171 x11 0) fun x12 =>
 pL Tryz.prog (oLoad 123 x12) w2 fun x13 =>
 pA Tryz.prog (oNil x13) fun x14 =>
 pA Tryz.prog (oFld 141 x14 1) fun x15 =>
 pA Tryz.prog (oFld 100 x15 0) fun x16 =>
 pL Tryz.prog (oLoad 3 x16) w2 fun x17 =>
 pA Tryz.prog (oNil x0) fun x19 =>
 pA Tryz.prog (oFld 233 x19 0) fun x20 =>
 pL Tryz.prog (oLoad 85 x20) w2 fun x21 =>
 pA Tryz.prog (oNil x21) fun x22 =>
 pA Tryz.prog (oFld 171 x22 0) fun x23 =>
 pL Tryz.prog (oLoad 123 x23) w2 fun x24 =>
 pA Tryz.prog (oNil x0) fun x26 =>
 pA Tryz.prog (oFld 233 x26 0) fun x27 =>
 pL Tryz.prog (oLoad 85 x27) w2 fun x28 =>
 pA Tryz.prog (oNil x28) fun x29 =>
 pA Tryz.prog (oFld 171 x29 1) fun x30 =>
 pL Tryz.prog (oLoad 97 x30) w2 fun x31 =>
 pN Tryz.prog (oCall 103 [x31]) w2 fun x32 w3 =>
 ((Sem.run Tryz.prog (oLoad 123 x23) w3 = .ok (.value x24) w3) ∧ (Sem.run Tryz.prog (oLoad 85 x20) w3 = .ok (.value x21) w3) ∧ (Sem.run Tryz.prog (oLoad 3 x16) w3 = .ok (.value x17) w3) ∧ (Sem.run Tryz.prog (oLoad 123 x12) w3 = .ok (.value x13) w3) ∧ (Sem.run Tryz.prog (oLoad 85 x9) w3 = .ok (.value x10) w3) ∧ True) ∧ (pN Tryz.prog (oCall 102 [x24, x32]) w3 fun x33 w4 =>
 ((Sem.run Tryz.prog (oLoad 3 x16) w4 = .ok (.value x17) w4) ∧ (Sem.run Tryz.prog (oLoad 123 x12) w4 = .ok (.value x13) w4) ∧ (Sem.run Tryz.prog (oLoad 85 x9) w4 = .ok (.value x10) w4) ∧ True) ∧ (pN Tryz.prog (oNil x0) w4 fun x37 w5 =>
 pN Tryz.prog (oFld 233 x37 0) w5 fun x38 w6 =>
 pN Tryz.prog (oLoad 85 x38) w6 fun x39 w7 =>
 pN Tryz.prog (oNil x39) w7 fun x40 w8 =>
 pN Tryz.prog (oFld 171 x40 0) w8 fun x41 w9 =>
 pN Tryz.prog (oLoad 123 x41) w9 fun x42 w10 =>
 pN Tryz.prog (oNil x42) w10 fun x43 w11 =>
 pN Tryz.prog (oFld 141 x43 2) w11 fun x44 w12 =>
 pN Tryz.prog (oLoad 137 x44) w12 fun x45 w13 =>
 pN Tryz.prog (oCall 167 [x0, x45, x33]) w13 fun x47 w14 =>
 pN Tryz.prog (oBin .eql 3 (.tmp 47) (.const (.int .i64 0)) x47 (.int .i64 0)) w14 fun x48 w15 =>
 pIf x48
 (pN Tryz.prog (oCall 168 [x0]) w15 fun x50 w16 =>
 pN Tryz.prog (oConv 3 5 x50) w16 fun x51 w17 =>
 pN Tryz.prog (oBuild 48 [(0, (.int .i64 1)), (1, x51)]) w17 fun x52 w18 =>
 pN Tryz.prog (oStore 48 x2 x52) w18 fun _ w19 =>
 pL Tryz.prog (oRes 48 x2) w19 fun r2 =>
 Q r2 w19)
 (pN Tryz.prog (oNil x0) w15 fun x56 w20 =>
 pN Tryz.prog (oFld 233 x56 0) w20 fun x57 w21 =>
 pN Tryz.prog (oLoad 85 x57) w21 fun x58 w22 =>
 pN Tryz.prog (oNil x58) w22 fun x59 w23 =>
 pN Tryz.prog (oFld 171 x59 0) w23 fun x60 w24 =>
 pN Tryz.prog (oLoad 123 x60) w24 fun x61 w25 =>
 pN Tryz.prog (oNil x61) w25 fun x62 w26 =>
 pN Tryz.prog (oFld 141 x62 4) w26 fun x63 w27 =>
 pN Tryz.prog (oLoad 137 x63) w27 fun x64 w28 =>
 pN Tryz.prog (oCall 167 [x0, x64, x17]) w28 fun x66 w29 =>
 pN Tryz.prog (oBin .eql 3 (.tmp 66) (.const (.int .i64 0)) x66 (.int .i64 0)) w29 fun x67 w30 =>
 pIf x67
 (pN Tryz.prog (oNil x0) w30 fun x70 w31 =>
 pN Tryz.prog (oFld 233 x70 0) w31 fun x71 w32 =>
 pN Tryz.prog (oLoad 85 x71) w32 fun x72 w33 =>
 pN Tryz.prog (oNil x72) w33 fun x73 w34 =>
 pN Tryz.prog (oFld 171 x73 0) w34 fun x74 w35 =>
 pN Tryz.prog (oLoad 123 x74) w35 fun x75 w36 =>
 pN Tryz.prog (oNil x75) w36 fun x76 w37 =>
 pN Tryz.prog (oFld 141 x76 9) w37 fun x77 w38 =>
 pN Tryz.prog (oLoad 139 x77) w38 fun x78 w39 =>
 pN Tryz.prog (oCall 169 [x0, x78]) w39 fun x79 w40 =>
 pN Tryz.prog (oCall 170 [x0, x79]) w40 fun x83 w41 =>
 pN Tryz.prog (oBuild 48 [(0, (.int .i64 2)), (2, x79), (3, x83)]) w41 fun x84 w42 =>
 pN Tryz.prog (oStore 48 x2 x84) w42 fun _ w43 =>
 pL Tryz.prog (oRes 48 x2) w43 fun r2 =>
 Q r2 w43)
 (pN Tryz.prog (oNil x0) w30 fun x88 w44 =>
 pN Tryz.prog (oFld 233 x88 0) w44 fun x89 w45 =>
 pN Tryz.prog (oLoad 85 x89) w45 fun x90 w46 =>
 pN Tryz.prog (oNil x90) w46 fun x91 w47 =>
 pN Tryz.prog (oFld 171 x91 0) w47 fun x92 w48 =>
 pN Tryz.prog (oLoad 123 x92) w48 fun x93 w49 =>
 pN Tryz.prog (oNil x93) w49 fun x94 w50 =>
 pN Tryz.prog (oFld 141 x94 5) w50 fun x95 w51 =>
 pN Tryz.prog (oLoad 137 x95) w51 fun x96 w52 =>
 pN Tryz.prog (oCall 167 [x0, x96, x17]) w52 fun x98 w53 =>
 pN Tryz.prog (oBin .eql 3 (.tmp 98) (.const (.int .i64 0)) x98 (.int .i64 0)) w53 fun x99 w54 =>
 pIf x99
 (pN Tryz.prog (oNil x0) w54 fun x102 w55 =>
 pN Tryz.prog (oFld 233 x102 0) w55 fun x103 w56 =>
 pN Tryz.prog (oLoad 85 x103) w56 fun x104 w57 =>
 pN Tryz.prog (oNil x104) w57 fun x105 w58 =>
 pN Tryz.prog (oFld 171 x105 0) w58 fun x106 w59 =>
 pN Tryz.prog (oLoad 123 x106) w59 fun x107 w60 =>
 pN Tryz.prog (oNil x107) w60 fun x108 w61 =>
 pN Tryz.prog (oFld 141 x108 3) w61 fun x109 w62 =>
 pN Tryz.prog (oLoad 137 x109) w62 fun x110 w63 =>
 pN Tryz.prog (oCall 167 [x0, x110, x33]) w63 fun x112 w64 =>
 pN Tryz.prog (oBin .eql 3 (.tmp 112) (.const (.int .i64 0)) x112 (.int .i64 0)) w64 fun x113 w65 =>
 pIf x113
 (pN Tryz.prog (oBuild 48 [(0, (.int .i64 4))]) w65 fun x114 w66 =>
 pN Tryz.prog (oStore 48 x2 x114) w66 fun _ w67 =>
 pL Tryz.prog (oRes 48 x2) w67 fun r2 =>
 Q r2 w67)
 (pN Tryz.prog (oNil x0) w65 fun x117 w68 =>
 pN Tryz.prog (oFld 233 x117 0) w68 fun x118 w69 =>
 pN Tryz.prog (oLoad 85 x118) w69 fun x119 w70 =>
 pN Tryz.prog (oNil x119) w70 fun x120 w71 =>
 pN Tryz.prog (oFld 171 x120 0) w71 fun x121 w72 =>
 pN Tryz.prog (oLoad 123 x121) w72 fun x122 w73 =>
 pN Tryz.prog (oNil x122) w73 fun x123 w74 =>
 pN Tryz.prog (oFld 141 x123 10) w74 fun x124 w75 =>
 pN Tryz.prog (oLoad 139 x124) w75 fun x125 w76 =>
 pN Tryz.prog (oCall 169 [x0, x125]) w76 fun x126 w77 =>
 pN Tryz.prog (oBuild 48 [(0, (.int .i64 3)), (2, x126)]) w77 fun x127 w78 =>
 pN Tryz.prog (oStore 48 x2 x127) w78 fun _ w79 =>
 pL Tryz.prog (oRes 48 x2) w79 fun r2 =>
 Q r2 w79))
 (∃ I14 : Value → World → Prop,
 (pN Tryz.prog (oNil x0) w54 fun x130 w80 =>
 pN Tryz.prog (oFld 233 x130 0) w80 fun x131 w81 =>
 pN Tryz.prog (oLoad 85 x131) w81 fun x132 w82 =>
 pN Tryz.prog (oNil x132) w82 fun x133 w83 =>
 pN Tryz.prog (oFld 171 x133 0) w83 fun x134 w84 =>
 pN Tryz.prog (oLoad 123 x134) w84 fun x135 w85 =>
 pN Tryz.prog (oNil x135) w85 fun x136 w86 =>
 pN Tryz.prog (oFld 141 x136 6) w86 fun x137 w87 =>
 pN Tryz.prog (oLoad 137 x137) w87 fun x138 w88 =>
 pN Tryz.prog (oCall 167 [x0, x138, x17]) w88 fun x140 w89 =>
 pN Tryz.prog (oBin .eql 3 (.tmp 140) (.const (.int .i64 1)) x140 (.int .i64 1)) w89 fun x141 w90 =>
 pIf x141
 (pN Tryz.prog (oNil x0) w90 fun x144 w91 =>
 pN Tryz.prog (oFld 233 x144 0) w91 fun x145 w92 =>
 pN Tryz.prog (oLoad 85 x145) w92 fun x146 w93 =>
 pN Tryz.prog (oNil x146) w93 fun x147 w94 =>
 pN Tryz.prog (oFld 171 x147 0) w94 fun x148 w95 =>
 pN Tryz.prog (oLoad 123 x148) w95 fun x149 w96 =>
 pN Tryz.prog (oNil x149) w96 fun x150 w97 =>
 pN Tryz.prog (oFld 141 x150 7) w97 fun x151 w98 =>
 pN Tryz.prog (oLoad 137 x151) w98 fun x152 w99 =>
 pN Tryz.prog (oCall 167 [x0, x152, x17]) w99 fun x154 w100 =>
 pN Tryz.prog (oBin .add 3 (.const (.int .i64 2)) (.tmp 154) (.int .i64 2) x154) w100 fun x155 w101 =>
 I14 x155 w101)
 (I14 (.int .i64 1) w90)) ∧
 ∀ (_j14 : Env) (i6c14 : Value) (w102 : World), I14 i6c14 w102 →
 pN Tryz.prog (oNil x0) w102 fun x158 w103 =>
 pN Tryz.prog (oFld 233 x158 0) w103 fun x159 w104 =>
 pN Tryz.prog (oLoad 85 x159) w104 fun x160 w105 =>
 pN Tryz.prog (oNil x160) w105 fun x161 w106 =>
 pN Tryz.prog (oFld 171 x161 0) w106 fun x162 w107 =>
 pN Tryz.prog (oLoad 123 x162) w107 fun x163 w108 =>
 pN Tryz.prog (oNil x163) w108 fun x164 w109 =>
 pN Tryz.prog (oFld 141 x164 10) w109 fun x165 w110 =>
 pN Tryz.prog (oLoad 139 x165) w110 fun x166 w111 =>
 pN Tryz.prog (oCall 169 [x0, x166]) w111 fun x167 w112 =>
 pN Tryz.prog (oBuild 48 [(0, (.int .i64 3)), (2, x167), (3, i6c14)]) w112 fun x169 w113 =>
 pN Tryz.prog (oStore 48 x2 x169) w113 fun _ w114 =>
 pL Tryz.prog (oRes 48 x2) w114 fun r2 =>
 Q r2 w114)))))
theorem lzdec_reader_symbol.calls [Pan] {x0 : Value} {w : World} {Q : Value → World → Prop} (h : lzdec_reader_symbol.F x0 w Q) : Calls Tryz.prog 134 #[x0] w (retP Q) := calls_lift mixed lzdec_reader_symbol.H [x0] Tryz.func134 (by kernel_rfl) (by kernel_rfl) h

def lzdec_reader_bit.F [Pan] (x0 x1 x2 : Value) (w : World) (Q : Value → World → Prop) : Prop :=
 pN Tryz.prog (oNil x0) w fun x8 w1 =>
 pN Tryz.prog (oFld 233 x8 2) w1 fun x9 w2 =>
 pN Tryz.prog (oLoad 4 x9) w2 fun x10 w3 =>
 pIf x10
 (Q (.int .i64 0) w3)
 (pN Tryz.prog (oNil x0) w3 fun x13 w4 =>
 pN Tryz.prog (oFld 233 x13 1) w4 fun x14 w5 =>
 pN Tryz.prog (oLoad 76 x14) w5 fun x15 w6 =>
 pN Tryz.prog (oCall 163 [x15, x1, x2]) w6 fun x18 w7 =>
 pN Tryz.prog (oExt x18 0) w7 fun x19 w8 =>
 pN Tryz.prog (oExt x18 1) w8 fun x20 w9 =>
 pN Tryz.prog (oCall 187 [x0, x19, x20]) w9 fun x21 w10 =>
 Q x21 w10)
theorem lzdec_reader_bit.calls [Pan] {x0 x1 x2 : Value} {w : World} {Q : Value → World → Prop} (h : lzdec_reader_bit.F x0 x1 x2 w Q) : Calls Tryz.prog 167 #[x0, x1, x2] w (retP Q) := calls_lift mixed .z [x0, x1, x2] Tryz.func167 (by kernel_rfl) (by kernel_rfl) h

def lzdec_reader_literal.H : Hints := { cut := fun | 9 => some ([8, 9], 1361129467673850333539215387527879867136) | 13 => some ([11], 159723975628756904588584603879424) | _ => none, loop := fun | 8 => ([8, 9, 10], 1361129467683134883833855739589623299840) | _ => ([], 0), order := fun | 2 => [(0, 0), (1, 1), (2, 3), (3, 7), (4, 15), (5, 31), (6, 63), (7, 127), (8, 255), (9, 511), (10, 1023), (11, 2047), (12, 4095), (13, 8191), (15, 16383), (14, 49151), (16, 65535), (17, 131071)] | 5 => [(0, 0), (1, 1), (2, 3), (3, 7), (4, 15), (5, 31), (6, 63), (7, 127), (8, 255), (9, 511), (10, 1023), (11, 2047), (12, 4095), (13, 8191), (14, 16383), (15, 32767), (16, 65535), (17, 131071), (18, 262143), (19, 524287), (20, 1048575), (21, 2097151), (22, 4194303), (23, 8388607), (24, 16777215)] | 10 => [(0, 0), (1, 1), (2, 3), (3, 7), (4, 15), (5, 31), (6, 63), (7, 127), (8, 255), (9, 511)] | _ => [] }
def lzdec_reader_literal.F [Pan] (x0 : Value) (w : World) (Q : Value → World → Prop) : Prop :=
 pN Tryz.prog (oNil x0) w fun x16 w1 =>
 pN Tryz.prog (oFld 233 x16 0) w1 fun x17 w2 =>
 pN Tryz.prog (oLoad 85 x17) w2 fun x18 w3 =>
 pN Tryz.prog (oNil x18) w3 fun x19 w4 =>
 pN Tryz.prog (oFld 171 x19 1) w4 fun x20 w5 =>
 pN Tryz.prog (oLoad 97 x20) w5 fun x21 w6 =>
 pN Tryz.prog (oCall 101 [x21, (.int .i64 1)]) w6 fun x22 w7 =>
 pN Tryz.prog (oExt x22 0) w7 fun x23 w8 =>
 pN Tryz.prog (oExt x22 1) w8 fun _ w9 =>
 pDr w9 fun w10 =>
 pA Tryz.prog (oNil x0) fun x26 =>
 pA Tryz.prog (oFld 233 x26 0) fun x27 =>
 pL Tryz.prog (oLoad 85 x27) w10 fun x28 =>
 pA Tryz.prog (oNil x28) fun x29 =>
 pA Tryz.prog (oFld 171 x29 0) fun x30 =>
 pL Tryz.prog (oLoad 123 x30) w10 fun x31 =>
 pA Tryz.prog (oNil x0) fun x33 =>
 pA Tryz.prog (oFld 233 x33 0) fun x34 =>
 pL Tryz.prog (oLoad 85 x34) w10 fun x35 =>
 pA Tryz.prog (oNil x35) fun x36 =>
 pA Tryz.prog (oFld 171 x36 1) fun x37 =>
 pL Tryz.prog (oLoad 97 x37) w10 fun x38 =>
 pN Tryz.prog (oCall 103 [x38]) w10 fun x39 w11 =>
 ((Sem.run Tryz.prog (oLoad 123 x30) w11 = .ok (.value x31) w11) ∧ (Sem.run Tryz.prog (oLoad 85 x27) w11 = .ok (.value x28) w11) ∧ True) ∧ (pN Tryz.prog (oCall 143 [x31, x39, x23]) w11 fun x41 w12 =>
 (True) ∧ (pN Tryz.prog (oNil x0) w12 fun x43 w13 =>
 pN Tryz.prog (oFld 233 x43 0) w13 fun x44 w14 =>
 pN Tryz.prog (oLoad 85 x44) w14 fun x45 w15 =>
 pN Tryz.prog (oNil x45) w15 fun x46 w16 =>
 pN Tryz.prog (oFld 171 x46 0) w16 fun x47 w17 =>
 pN Tryz.prog (oLoad 123 x47) w17 fun x48 w18 =>
 pN Tryz.prog (oNil x48) w18 fun x49 w19 =>
 pN Tryz.prog (oFld 141 x49 1) w19 fun x50 w20 =>
 pN Tryz.prog (oLoad 100 x50) w20 fun x51 w21 =>
 pN Tryz.prog (oCall 144 [x51]) w21 fun x52 w22 =>
 pIf x52
 (pN Tryz.prog (oNil x0) w22 fun x55 w23 =>
 pN Tryz.prog (oFld 233 x55 0) w23 fun x56 w24 =>
 pN Tryz.prog (oLoad 85 x56) w24 fun x57 w25 =>
 pN Tryz.prog (oNil x57) w25 fun x58 w26 =>
 pN Tryz.prog (oFld 171 x58 0) w26 fun x59 w27 =>
 pN Tryz.prog (oLoad 123 x59) w27 fun x60 w28 =>
 pN Tryz.prog (oNil x60) w28 fun x61 w29 =>
 pN Tryz.prog (oFld 141 x61 8) w29 fun x62 w30 =>
 pN Tryz.prog (oLoad 137 x62) w30 fun x63 w31 =>
 pN Tryz.prog (oCall 188 [x0, x63, x41, (.int .i64 8)]) w31 fun x65 w32 =>
 Q x65 w32)
 (pDr w22 fun w33 =>
 pA Tryz.prog (oNil x0) fun x68 =>
 pA Tryz.prog (oFld 233 x68 0) fun x69 =>
 pL Tryz.prog (oLoad 85 x69) w33 fun x70 =>
 pA Tryz.prog (oNil x70) fun x71 =>
 pA Tryz.prog (oFld 171 x71 1) fun x72 =>
 pL Tryz.prog (oLoad 97 x72) w33 fun x73 =>
 pA Tryz.prog (oNil x0) fun x75 =>
 pA Tryz.prog (oFld 233 x75 0) fun x76 =>
 pL Tryz.prog (oLoad 85 x76) w33 fun x77 =>
 pA Tryz.prog (oNil x77) fun x78 =>
 pA Tryz.prog (oFld 171 x78 0) fun x79 =>
 pL Tryz.prog (oLoad 123 x79) w33 fun x80 =>
 pA Tryz.prog (oNil x80) fun x81 =>
 pA Tryz.prog (oFld 141 x81 1) fun x82 =>
 pA Tryz.prog (oFld 100 x82 1) fun x83 =>
 pA Tryz.prog (oIdx 67 x83 (.int .i64 0)) fun x84 =>
 pL Tryz.prog (oLoad 3 x84) w33 fun x85 =>
 pN Tryz.prog (oCall 101 [x73, x85]) w33 fun x86 w34 =>
 (True) ∧ (pA Tryz.prog (oExt x86 0) fun x87 =>
 pA Tryz.prog (oExt x86 1) fun _ =>
 ∃ (L8 : Value → Value → Value → World → Prop) (m8 : Value → Value → Value → World → Nat),
 L8 (.int .i64 1) (.bool true) (.int .i64 7) w34 ∧
 ∀ (_k8 : Env) (m8l8 : Value) (same9l8 : Value) (i10l8 : Value) (w35 : World), L8 m8l8 same9l8 i10l8 w35 →
 pN Tryz.prog (oBin .geq 3 (.tmp 89) (.const (.int .i64 0)) i10l8 (.int .i64 0)) w35 fun x90 w36 =>
 pIf x90
 (∃ I9 : Value → Value → World → Prop,
 (pDr w36 fun w37 =>
 pA Tryz.prog (oBin .add 3 (.tmp 93) (.tmp 94) x41 m8l8) fun x95 =>
 pL Tryz.prog (oConv 5 3 x87) w37 fun x97 =>
 pA Tryz.prog (oBin .shr 3 (.tmp 97) (.tmp 98) x97 i10l8) fun x99 =>
 pA Tryz.prog (oBin .and 3 (.tmp 99) (.const (.int .i64 1)) x99 (.int .i64 1)) fun x100 =>
 ∃ I13 : Value → World → Prop,
 (pIf same9l8
 (pN Tryz.prog (oBin .add 3 (.const (.int .i64 1)) (.tmp 103) (.int .i64 1) x100) w37 fun x104 w38 =>
 pN Tryz.prog (oBin .mul 3 (.const (.int .i64 256)) (.tmp 104) (.int .i64 256) x104) w38 fun x105 w39 =>
 pN Tryz.prog (oBin .add 3 (.tmp 102) (.tmp 105) x95 x105) w39 fun x106 w40 =>
 I13 x106 w40)
 (I13 x95 w37)) ∧
 ∀ (_j13 : Env) (at11c13 : Value) (w41 : World), I13 at11c13 w41 →
 pN Tryz.prog (oNil x0) w41 fun x109 w42 =>
 pN Tryz.prog (oFld 233 x109 0) w42 fun x110 w43 =>
 pN Tryz.prog (oLoad 85 x110) w43 fun x111 w44 =>
 pN Tryz.prog (oNil x111) w44 fun x112 w45 =>
 pN Tryz.prog (oFld 171 x112 0) w45 fun x113 w46 =>
 pN Tryz.prog (oLoad 123 x113) w46 fun x114 w47 =>
 pN Tryz.prog (oNil x114) w47 fun x115 w48 =>
 pN Tryz.prog (oFld 141 x115 8) w48 fun x116 w49 =>
 pN Tryz.prog (oLoad 137 x116) w49 fun x117 w50 =>
 pN Tryz.prog (oCall 167 [x0, x117, at11c13]) w50 fun x119 w51 =>
 pGd (gB same9l8 true) (pN Tryz.prog (oMv x119) w51) w51 fun x122 w52 =>
 pGd (gB same9l8 true) (pN Tryz.prog (oMv x100) w52) w52 fun x123 w53 =>
 pGd (gB same9l8 true) (pN Tryz.prog (oBin .eql 3 (.tmp 122) (.tmp 123) x122 x123) w53) w53 fun x124 w54 =>
 pN Tryz.prog (oPick same9l8 x124 (.bool false)) w54 fun x125 w55 =>
 pN Tryz.prog (oBin .mul 3 (.const (.int .i64 2)) (.tmp 126) (.int .i64 2) m8l8) w55 fun x127 w56 =>
 pN Tryz.prog (oBin .add 3 (.tmp 127) (.tmp 128) x127 x119) w56 fun x129 w57 =>
 I9 x129 x125 w57) ∧
 ∀ (_j9 : Env) (m8c9 : Value) (same9c9 : Value) (w58 : World), I9 m8c9 same9c9 w58 →
 pN Tryz.prog (oBin .sub 3 (.tmp 91) (.const (.int .i64 1)) i10l8 (.int .i64 1)) w58 fun x92 w59 =>
 (L8 m8c9 same9c9 x92 w59 ∧ m8 m8c9 same9c9 x92 w59 < m8 m8l8 same9l8 i10l8 w35))
 (pN Tryz.prog (oBin .sub 3 (.tmp 130) (.const (.int .i64 256)) m8l8 (.int .i64 256)) w36 fun x131 w60 =>
 Q x131 w60)))))
theorem lzdec_reader_literal.calls [Pan] {x0 : Value} {w : World} {Q : Value → World → Prop} (h : lzdec_reader_literal.F x0 w Q) : Calls Tryz.prog 168 #[x0] w (retP Q) := calls_lift mixed lzdec_reader_literal.H [x0] Tryz.func168 (by kernel_rfl) (by kernel_rfl) h

def lzdec_reader_length.H : Hints := { cut := fun  | _ => none, loop := fun  | _ => ([], 0), order := fun | 1 => [(0, 0), (1, 1), (2, 3), (3, 7), (4, 15), (5, 31), (6, 63), (7, 127), (8, 255), (9, 511), (10, 1023), (11, 2047), (12, 4095), (13, 8191), (14, 16383), (15, 32767), (16, 65535), (17, 131071)] | _ => [] }
def lzdec_reader_length.F [Pan] (x0 x1 : Value) (w : World) (Q : Value → World → Prop) : Prop :=
 pN Tryz.prog (oBox 139 x1) w fun x3 w1 =>
 pDr w1 fun w2 =>
 pA Tryz.prog (oNil x0) fun x7 =>
 pA Tryz.prog (oFld 233 x7 0) fun x8 =>
 pL Tryz.prog (oLoad 85 x8) w2 fun x9 =>
 pA Tryz.prog (oNil x9) fun x10 =>
 pA Tryz.prog (oFld 171 x10 0) fun x11 =>
 pL Tryz.prog (oLoad 123 x11) w2 fun x12 =>
 pA Tryz.prog (oNil x0) fun x14 =>
 pA Tryz.prog (oFld 233 x14 0) fun x15 =>
 pL Tryz.prog (oLoad 85 x15) w2 fun x16 =>
 pA Tryz.prog (oNil x16) fun x17 =>
 pA Tryz.prog (oFld 171 x17 1) fun x18 =>
 pL Tryz.prog (oLoad 97 x18) w2 fun x19 =>
 pN Tryz.prog (oCall 103 [x19]) w2 fun x20 w3 =>
 ((Sem.run Tryz.prog (oLoad 123 x11) w3 = .ok (.value x12) w3) ∧ (Sem.run Tryz.prog (oLoad 85 x8) w3 = .ok (.value x9) w3) ∧ True) ∧ (pN Tryz.prog (oCall 142 [x12, x20]) w3 fun x21 w4 =>
 (True) ∧ (pA Tryz.prog (oBin .mul 3 (.const (.int .i64 8)) (.tmp 21) (.int .i64 8) x21) fun x22 =>
 pN Tryz.prog (oFld 139 x3 0) w4 fun x25 w5 =>
 pN Tryz.prog (oLoad 137 x25) w5 fun x26 w6 =>
 pN Tryz.prog (oCall 167 [x0, x26, (.int .i64 0)]) w6 fun x27 w7 =>
 pN Tryz.prog (oBin .eql 3 (.tmp 27) (.const (.int .i64 0)) x27 (.int .i64 0)) w7 fun x28 w8 =>
 pIf x28
 (pN Tryz.prog (oFld 139 x3 1) w8 fun x30 w9 =>
 pN Tryz.prog (oLoad 137 x30) w9 fun x31 w10 =>
 pN Tryz.prog (oCall 188 [x0, x31, x22, (.int .i64 3)]) w10 fun x33 w11 =>
 pN Tryz.prog (oBin .add 3 (.const (.int .i64 2)) (.tmp 33) (.int .i64 2) x33) w11 fun x34 w12 =>
 Q x34 w12)
 (pN Tryz.prog (oFld 139 x3 0) w8 fun x37 w13 =>
 pN Tryz.prog (oLoad 137 x37) w13 fun x38 w14 =>
 pN Tryz.prog (oCall 167 [x0, x38, (.int .i64 1)]) w14 fun x39 w15 =>
 pN Tryz.prog (oBin .eql 3 (.tmp 39) (.const (.int .i64 0)) x39 (.int .i64 0)) w15 fun x40 w16 =>
 pIf x40
 (pN Tryz.prog (oFld 139 x3 2) w16 fun x42 w17 =>
 pN Tryz.prog (oLoad 137 x42) w17 fun x43 w18 =>
 pN Tryz.prog (oCall 188 [x0, x43, x22, (.int .i64 3)]) w18 fun x45 w19 =>
 pN Tryz.prog (oBin .add 3 (.const (.int .i64 10)) (.tmp 45) (.int .i64 10) x45) w19 fun x46 w20 =>
 Q x46 w20)
 (pN Tryz.prog (oFld 139 x3 3) w16 fun x48 w21 =>
 pN Tryz.prog (oLoad 137 x48) w21 fun x49 w22 =>
 pN Tryz.prog (oCall 188 [x0, x49, (.int .i64 0), (.int .i64 8)]) w22 fun x50 w23 =>
 pN Tryz.prog (oBin .add 3 (.const (.int .i64 18)) (.tmp 50) (.int .i64 18) x50) w23 fun x51 w24 =>
 Q x51 w24))))
theorem lzdec_reader_length.calls [Pan] {x0 x1 : Value} {w : World} {Q : Value → World → Prop} (h : lzdec_reader_length.F x0 x1 w Q) : Calls Tryz.prog 169 #[x0, x1] w (retP Q) := calls_lift mixed lzdec_reader_length.H [x0, x1] Tryz.func169 (by kernel_rfl) (by kernel_rfl) h

def lzdec_reader_distance.H : Hints := { cut := fun  | _ => none, loop := fun  | _ => ([], 0), order := fun | 6 => [(0, 0), (1, 1), (2, 3), (3, 7), (4, 15), (5, 31), (6, 63), (7, 127), (8, 255), (9, 511), (10, 1023), (11, 2047), (12, 4095), (14, 8191), (13, 24575), (15, 32767), (16, 65535), (17, 131071)] | _ => [] }
def lzdec_reader_distance.F [Pan] (x0 x1 : Value) (w : World) (Q : Value → World → Prop) : Prop :=
 pN Tryz.prog (oNil x0) w fun x12 w1 =>
 pN Tryz.prog (oFld 233 x12 0) w1 fun x13 w2 =>
 pN Tryz.prog (oLoad 85 x13) w2 fun x14 w3 =>
 pN Tryz.prog (oNil x14) w3 fun x15 w4 =>
 pN Tryz.prog (oFld 171 x15 0) w4 fun x16 w5 =>
 pN Tryz.prog (oLoad 123 x16) w5 fun x17 w6 =>
 pN Tryz.prog (oNil x17) w6 fun x18 w7 =>
 pN Tryz.prog (oFld 141 x18 11) w7 fun x19 w8 =>
 pN Tryz.prog (oLoad 137 x19) w8 fun x20 w9 =>
 pN Tryz.prog (oBin .sub 3 (.tmp 21) (.const (.int .i64 2)) x1 (.int .i64 2)) w9 fun x22 w10 =>
 pN Tryz.prog (oBi .min #[3, 3] 3 [false, true] [x22, (.int .i64 3)]) w10 fun x23 w11 =>
 pN Tryz.prog (oBi .max #[3, 3] 3 [true, false] [(.int .i64 0), x23]) w11 fun x24 w12 =>
 pN Tryz.prog (oBin .mul 3 (.const (.int .i64 64)) (.tmp 24) (.int .i64 64) x24) w12 fun x25 w13 =>
 pN Tryz.prog (oCall 188 [x0, x20, x25, (.int .i64 6)]) w13 fun x26 w14 =>
 pN Tryz.prog (oCall 146 [x26]) w14 fun x29 w15 =>
 pN Tryz.prog (oExt x29 0) w15 fun x30 w16 =>
 pN Tryz.prog (oExt x29 1) w16 fun x31 w17 =>
 pN Tryz.prog (oExt x29 2) w17 fun _ w18 =>
 pN Tryz.prog (oBin .eql 3 (.tmp 34) (.const (.int .i64 0)) x31 (.int .i64 0)) w18 fun x35 w19 =>
 pIf x35
 (Q x30 w19)
 (pN Tryz.prog (oCall 147 [x26]) w19 fun x39 w20 =>
 pN Tryz.prog (oUn .not x39) w20 fun x40 w21 =>
 pIf x40
 (pDr w21 fun w22 =>
 pA Tryz.prog (oNil x0) fun x44 =>
 pA Tryz.prog (oFld 233 x44 0) fun x45 =>
 pL Tryz.prog (oLoad 85 x45) w22 fun x46 =>
 pA Tryz.prog (oNil x46) fun x47 =>
 pA Tryz.prog (oFld 171 x47 0) fun x48 =>
 pL Tryz.prog (oLoad 123 x48) w22 fun x49 =>
 pA Tryz.prog (oNil x49) fun x50 =>
 pA Tryz.prog (oFld 141 x50 12) fun x51 =>
 pL Tryz.prog (oLoad 137 x51) w22 fun x52 =>
 pN Tryz.prog (oCall 148 [x26]) w22 fun x54 w23 =>
 ((Sem.run Tryz.prog (oLoad 137 x51) w23 = .ok (.value x52) w23) ∧ (Sem.run Tryz.prog (oLoad 123 x48) w23 = .ok (.value x49) w23) ∧ (Sem.run Tryz.prog (oLoad 85 x45) w23 = .ok (.value x46) w23) ∧ True) ∧ (pN Tryz.prog (oCall 189 [x0, x52, x54, x31]) w23 fun x56 w24 =>
 (True) ∧ (pA Tryz.prog (oBin .add 3 (.tmp 41) (.tmp 56) x30 x56) fun x57 =>
 Q x57 w24)))
 (pN Tryz.prog (oBin .sub 3 (.tmp 59) (.const (.int .i64 4)) x31 (.int .i64 4)) w21 fun x60 w25 =>
 pN Tryz.prog (oCall 190 [x0, x60]) w25 fun x61 w26 =>
 pN Tryz.prog (oBin .shl 3 (.tmp 63) (.const (.int .u64 4)) x61 (.int .u64 4)) w26 fun x64 w27 =>
 pN Tryz.prog (oBin .add 3 (.tmp 62) (.tmp 64) x30 x64) w27 fun x65 w28 =>
 pN Tryz.prog (oNil x0) w28 fun x68 w29 =>
 pN Tryz.prog (oFld 233 x68 0) w29 fun x69 w30 =>
 pN Tryz.prog (oLoad 85 x69) w30 fun x70 w31 =>
 pN Tryz.prog (oNil x70) w31 fun x71 w32 =>
 pN Tryz.prog (oFld 171 x71 0) w32 fun x72 w33 =>
 pN Tryz.prog (oLoad 123 x72) w33 fun x73 w34 =>
 pN Tryz.prog (oNil x73) w34 fun x74 w35 =>
 pN Tryz.prog (oFld 141 x74 13) w35 fun x75 w36 =>
 pN Tryz.prog (oLoad 137 x75) w36 fun x76 w37 =>
 pN Tryz.prog (oCall 189 [x0, x76, (.int .i64 0), (.int .i64 4)]) w37 fun x77 w38 =>
 pN Tryz.prog (oBin .add 3 (.tmp 65) (.tmp 77) x65 x77) w38 fun x78 w39 =>
 Q x78 w39))
theorem lzdec_reader_distance.calls [Pan] {x0 x1 : Value} {w : World} {Q : Value → World → Prop} (h : lzdec_reader_distance.F x0 x1 w Q) : Calls Tryz.prog 170 #[x0, x1] w (retP Q) := calls_lift mixed lzdec_reader_distance.H [x0, x1] Tryz.func170 (by kernel_rfl) (by kernel_rfl) h

def lzdec_reader_got.F [Pan] (x0 x1 x2 : Value) (w : World) (Q : Value → World → Prop) : Prop :=
 pN Tryz.prog (oBin .neq 38 (.tmp 7) (.const (.int .i64 0)) x2 (.int .i64 0)) w fun x8 w1 =>
 pIf x8
 (pN Tryz.prog (oNil x0) w1 fun x10 w2 =>
 pN Tryz.prog (oFld 233 x10 2) w2 fun x11 w3 =>
 pN Tryz.prog (oStore 4 x11 (.bool true)) w3 fun _ w4 =>
 Q (.int .i64 0) w4)
 (Q x1 w1)
theorem lzdec_reader_got.calls [Pan] {x0 x1 x2 : Value} {w : World} {Q : Value → World → Prop} (h : lzdec_reader_got.F x0 x1 x2 w Q) : Calls Tryz.prog 187 #[x0, x1, x2] w (retP Q) := calls_lift mixed .z [x0, x1, x2] Tryz.func187 (by kernel_rfl) (by kernel_rfl) h

def lzdec_reader_tree.F [Pan] (x0 x1 x2 x3 : Value) (w : World) (Q : Value → World → Prop) : Prop :=
 pN Tryz.prog (oNil x0) w fun x10 w1 =>
 pN Tryz.prog (oFld 233 x10 2) w1 fun x11 w2 =>
 pN Tryz.prog (oLoad 4 x11) w2 fun x12 w3 =>
 pIf x12
 (Q (.int .i64 0) w3)
 (pN Tryz.prog (oNil x0) w3 fun x15 w4 =>
 pN Tryz.prog (oFld 233 x15 1) w4 fun x16 w5 =>
 pN Tryz.prog (oLoad 76 x16) w5 fun x17 w6 =>
 pN Tryz.prog (oCall 202 [x17, x1, x2, x3]) w6 fun x21 w7 =>
 pN Tryz.prog (oExt x21 0) w7 fun x22 w8 =>
 pN Tryz.prog (oExt x21 1) w8 fun x23 w9 =>
 pN Tryz.prog (oCall 187 [x0, x22, x23]) w9 fun x24 w10 =>
 Q x24 w10)
theorem lzdec_reader_tree.calls [Pan] {x0 x1 x2 x3 : Value} {w : World} {Q : Value → World → Prop} (h : lzdec_reader_tree.F x0 x1 x2 x3 w Q) : Calls Tryz.prog 188 #[x0, x1, x2, x3] w (retP Q) := calls_lift mixed .z [x0, x1, x2, x3] Tryz.func188 (by kernel_rfl) (by kernel_rfl) h

def lzdec_reader_back.F [Pan] (x0 x1 x2 x3 : Value) (w : World) (Q : Value → World → Prop) : Prop :=
 pN Tryz.prog (oNil x0) w fun x10 w1 =>
 pN Tryz.prog (oFld 233 x10 2) w1 fun x11 w2 =>
 pN Tryz.prog (oLoad 4 x11) w2 fun x12 w3 =>
 pIf x12
 (Q (.int .i64 0) w3)
 (pN Tryz.prog (oNil x0) w3 fun x15 w4 =>
 pN Tryz.prog (oFld 233 x15 1) w4 fun x16 w5 =>
 pN Tryz.prog (oLoad 76 x16) w5 fun x17 w6 =>
 pN Tryz.prog (oCall 203 [x17, x1, x2, x3]) w6 fun x21 w7 =>
 pN Tryz.prog (oExt x21 0) w7 fun x22 w8 =>
 pN Tryz.prog (oExt x21 1) w8 fun x23 w9 =>
 pN Tryz.prog (oCall 187 [x0, x22, x23]) w9 fun x24 w10 =>
 Q x24 w10)
theorem lzdec_reader_back.calls [Pan] {x0 x1 x2 x3 : Value} {w : World} {Q : Value → World → Prop} (h : lzdec_reader_back.F x0 x1 x2 x3 w Q) : Calls Tryz.prog 189 #[x0, x1, x2, x3] w (retP Q) := calls_lift mixed .z [x0, x1, x2, x3] Tryz.func189 (by kernel_rfl) (by kernel_rfl) h

def lzdec_reader_direct.F [Pan] (x0 x1 : Value) (w : World) (Q : Value → World → Prop) : Prop :=
 pN Tryz.prog (oNil x0) w fun x8 w1 =>
 pN Tryz.prog (oFld 233 x8 2) w1 fun x9 w2 =>
 pN Tryz.prog (oLoad 4 x9) w2 fun x10 w3 =>
 pIf x10
 (Q (.int .i64 0) w3)
 (pN Tryz.prog (oNil x0) w3 fun x13 w4 =>
 pN Tryz.prog (oFld 233 x13 1) w4 fun x14 w5 =>
 pN Tryz.prog (oLoad 76 x14) w5 fun x15 w6 =>
 pN Tryz.prog (oCall 166 [x15, x1]) w6 fun x17 w7 =>
 pN Tryz.prog (oExt x17 0) w7 fun x18 w8 =>
 pN Tryz.prog (oExt x17 1) w8 fun x19 w9 =>
 pN Tryz.prog (oConv 148 3 x18) w9 fun x22 w10 =>
 pN Tryz.prog (oCall 187 [x0, x22, x19]) w10 fun x24 w11 =>
 Q x24 w11)
theorem lzdec_reader_direct.calls [Pan] {x0 x1 : Value} {w : World} {Q : Value → World → Prop} (h : lzdec_reader_direct.F x0 x1 w Q) : Calls Tryz.prog 190 #[x0, x1] w (retP Q) := calls_lift mixed .z [x0, x1] Tryz.func190 (by kernel_rfl) (by kernel_rfl) h

end Go.Proofs.YtbgnnjfpiblkmaaGreatDoor

namespace Go.Proofs.YtbgnnjfpiblkmaaGreatDoor
open Go
attribute [local irreducible] oMv oV oU oCall oCallV oBi oBin oUn oLoad oStore oNil oFld oField oIdx oIndex oPick oAlloc oBox oBuild oBs oConv oMk oSl oExt oFn oIface oMap oLook oMapUp oRange oNext oEntry oInv oAssert oPanic oRes pN pA pL pDr pIf gA pGd

theorem D.bitQ_v0 {st : D.S} {l : List Int} {i : Int} (h : (st.bitQ l i).2.2.2 ≠ 0) : (st.bitQ l i).2.2.1 = 0 := by
  unfold D.S.bitQ at *
  split
  · rename_i hn
    simp only [if_pos hn] at h
    split
    · rename_i t v e
      simp only [e] at h
      exact absurd rfl h
    · rfl
  · rfl

section
variable {E w : World} {M : List HA} {Q : Value → World → Prop} {d p : Nat}

theorem downG_ok (at_ : Int) (n : Nat) (g : Value) (z : D.A) (hz : D.AOk z) (hn : n ≤ 16) (h0 : 0 ≤ at_) (h1 : at_ ≤ 1099511627776) (Inv : D.A → List Int → World → Prop)
    (hI : Inv z [] w) (step : ∀ y l w (K : Value → World → Prop), D.AOk y → D.Same y z → R.Bits l → l.length < n → Inv y l w →
      (∀ w, (y.1.bitQ y.2 (at_ + R.nodeL l)).2.2.2 = 0 → Inv ((y.1.bitQ y.2 (at_ + R.nodeL l)).1, (y.1.bitQ y.2 (at_ + R.nodeL l)).2.1) (l ++ [(y.1.bitQ y.2 (at_ + R.nodeL l)).2.2.1]) w → K (.tuple #[.int .i64 (y.1.bitQ y.2 (at_ + R.nodeL l)).2.2.1, .int .i64 0]) w) →
      (∀ w, (y.1.bitQ y.2 (at_ + R.nodeL l)).2.2.2 ≠ 0 → Inv y l w → K (.tuple #[.int .i64 (y.1.bitQ y.2 (at_ + R.nodeL l)).2.2.1, .int .i64 (y.1.bitQ y.2 (at_ + R.nodeL l)).2.2.2]) w) →
      pN Tryz.prog (oCallV g [.int .i64 (at_ + R.nodeL l), .int .i64 l.length]) w K)
    (hQ : ∀ w, Inv (D.walk at_ z n).1 (D.walk at_ z n).2.1 w → Q (.int .i64 (D.walk at_ z n).2.2) w) : Calls Tryz.prog 220 #[.int .i64 at_, .int .i64 n, g] w (retP Q) := by
  refine tree_down.calls ?_
  unfold tree_down.F
  refine ⟨fun m v w => ∃ (y : D.A) (l : List Int), m = .int .i64 (R.nodeL l) ∧ v = .int .i64 l.length ∧ l.length ≤ n ∧ D.walk at_ z l.length = (y, l, 0) ∧ Inv y l w, fun _ v _ => n - (RowKit.intOf v).toNat, ⟨z, [], rfl, rfl, Nat.zero_le _, rfl, hI⟩, ?_⟩
  rintro _ _ _ w1 ⟨y, l, rfl, rfl, hl, hw, hI⟩
  have hok := D.walk_ok (at_ := at_) hz l.length
  rw [hw] at hok
  obtain ⟨hy, hyz, hbits, _⟩ := hok
  dsimp only at hy hyz hbits
  have hm := R.nodeL_bd hbits
  have h2 : (2 : Int) ^ (l.length + 1) ≤ 2 ^ 17 := R.two_le (by omega)
  have h3 : (0 : Int) < 2 ^ l.length := Int.pow_pos (by omega)
  have e2 : (2 : Int) ^ 17 = 131072 := by decide
  have hst := D.walk_step hw
  have hb01 := D.bitQ_v (st := y.1) (l := y.2) (i := at_ + R.nodeL l)
  by_cases hlt : l.length < n
  · repeat' (first | (refine pN_lss_s ?_ ?_ <;> intro hc <;> try (exfalso; omega)) | refine pIf_t ?_ | refine pN_v (hk := ?_) | fail)
    refine step y l _ _ hy hyz hbits hlt hI (fun w h0 hI => ?_) (fun w h0 hI => ?_)
    · rw [if_pos h0] at hst
      repeat' (first | (refine pN_neq_s ?_ ?_ <;> intro hc <;> try (exfalso; first | omega | exact hc rfl | exact hc (by assumption) | exact absurd hc (by assumption))) | refine pIf_f ?_ | refine pN_v (hk := ?_) | fail)
      refine ⟨⟨_, l ++ [(y.1.bitQ y.2 (at_ + R.nodeL l)).2.2.1], by rw [R.nodeL_snoc], by simp, by simp; omega, by rw [List.length_append]; exact hst, hI⟩, by simp [RowKit.intOf] <;> omega⟩
    · rw [if_neg h0] at hst
      have hs := D.walk_stuck (at_ := at_) (z := z) (k := l.length + 1) (by rw [hst]; exact h0) (n - (l.length + 1))
      rw [show l.length + 1 + (n - (l.length + 1)) = n from by omega, hst] at hs
      rw [hs] at hQ
      repeat' (first | (refine pN_neq_s ?_ ?_ <;> intro hc <;> try (exfalso; first | omega | exact hc rfl | exact hc (by assumption) | exact absurd hc (by assumption))) | refine pIf_t ?_ | refine pN_v (hk := ?_) | fail)
      exact hQ _ hI
  · obtain rfl : n = l.length := by omega
    rw [hw] at hQ
    repeat' (first | (refine pN_lss_s ?_ ?_ <;> intro hc <;> try (exfalso; omega)) | refine pIf_f ?_ | fail)
    exact hQ _ hI

theorem part_or {back : Bool} {n : Nat} {l : List Int} (hb : R.Bits l) (hl : l.length < n) (hn : n ≤ 16) {x : Int} (hx : x = 0 ∨ x = 1) :
    IntKind.i64.wrap (x * 2 ^ (if back then l.length else n - 1 - l.length)) = x * 2 ^ (if back then l.length else n - 1 - l.length) ∧
    IntKind.i64.wrap ((BitVec.ofInt IntKind.i64.bits (R.part back n l) ||| BitVec.ofInt IntKind.i64.bits (x * 2 ^ (if back then l.length else n - 1 - l.length))).toNat : Int) = R.part back n l + x * 2 ^ (if back then l.length else n - 1 - l.length) := by
  have e64 : (2 : Int) ^ IntKind.i64.bits = 18446744073709551616 := by decide
  have e17 : (2 : Int) ^ 17 = 131072 := by decide
  cases back
  · simp only [Bool.false_eq_true, if_false, R.part]
    have h1 := R.horner_bd hb
    have p0 : (0 : Int) < 2 ^ (n - 1 - l.length) := Int.pow_pos (by omega)
    have p1 : (2 : Int) ^ (n - 1 - l.length) ≤ 2 ^ 17 := R.two_le (by omega)
    have p2 : (2 : Int) ^ (n - l.length) = 2 ^ (n - 1 - l.length) * 2 := by rw [show n - l.length = (n - 1 - l.length) + 1 from by omega, Int.pow_succ]
    have p3 : R.horner l * 2 ^ (n - l.length) ≤ 2 ^ l.length * 2 ^ (n - l.length) := Int.mul_le_mul_of_nonneg_right (by omega) (by omega)
    have p4 : (2 : Int) ^ l.length * 2 ^ (n - l.length) = 2 ^ n := by rw [← Int.pow_add, show l.length + (n - l.length) = n from by omega]
    have p5 : (2 : Int) ^ n ≤ 2 ^ 17 := R.two_le (by omega)
    have p6 : 0 ≤ R.horner l * 2 ^ (n - l.length) := Int.mul_nonneg h1.1 (by omega)
    have hx0 : 0 ≤ x * 2 ^ (n - 1 - l.length) ∧ x * 2 ^ (n - 1 - l.length) < 2 ^ (n - l.length) := by rcases hx with rfl | rfl <;> omega
    have := or_low IntKind.i64.bits (R.horner l) (x * 2 ^ (n - 1 - l.length)) (n - l.length) h1.1 hx0.1 hx0.2 (by omega)
    exact ⟨wrap_i64 (by omega), by rw [this, wrap_i64 (by omega)]⟩
  · simp only [if_true, R.part]
    have h1 := R.backv_bd hb
    have p0 : (0 : Int) < 2 ^ l.length := Int.pow_pos (by omega)
    have p1 : (2 : Int) ^ l.length ≤ 2 ^ 17 := R.two_le (by omega)
    have hx0 : 0 ≤ x * 2 ^ l.length ∧ x * 2 ^ l.length ≤ 2 ^ l.length := by rcases hx with rfl | rfl <;> omega
    have := or_low IntKind.i64.bits x (R.backv l) l.length (by omega) h1.1 h1.2 (by omega)
    exact ⟨wrap_i64 (by omega), by rw [BitVec.or_comm, this, wrap_i64 (by omega), Int.add_comm]⟩

theorem get_c1_ok {c1 c2 c3 c4 c5 : Nat} {back : Bool} {n : Nat} {y : D.A} {l : List Int} (place : Int)
    (hS : Sat E w (Dec d y.1 :: PSet p y.2 :: cel c1 ⟨76, [.pointer (some ⟨d, 0, none⟩)]⟩ :: cel c2 ⟨137, [.pointer (some ⟨p, 0, none⟩)]⟩ :: cel c3 ⟨3, [.int .i64 (R.part back n l)]⟩ :: cel c4 ⟨4, [.bool back]⟩ :: cel c5 ⟨3, [.int .i64 n]⟩ :: M))
    (hy : D.AOk y) (hb : y.1.b.length ≤ 225000000000000) (hbits : R.Bits l) (hk : l.length < n) (hn : n ≤ 16)
    (hQ : ∀ w, Sat E w (Dec d (y.1.bitQ y.2 place).1 :: PSet p (y.1.bitQ y.2 place).2.1 :: cel c1 ⟨76, [.pointer (some ⟨d, 0, none⟩)]⟩ :: cel c2 ⟨137, [.pointer (some ⟨p, 0, none⟩)]⟩ ::
      cel c3 ⟨3, [.int .i64 (R.part back n l + (y.1.bitQ y.2 place).2.2.1 * 2 ^ (if back then l.length else n - 1 - l.length))]⟩ :: cel c4 ⟨4, [.bool back]⟩ :: cel c5 ⟨3, [.int .i64 n]⟩ :: M) → Q (.tuple #[.int .i64 (y.1.bitQ y.2 place).2.2.1, .int .i64 (y.1.bitQ y.2 place).2.2.2]) w) :
    Calls Tryz.prog 221 #[.int .i64 place, .int .i64 l.length, .pointer (some ⟨c1, 0, none⟩), .pointer (some ⟨c2, 0, none⟩), .pointer (some ⟨c3, 0, none⟩), .pointer (some ⟨c4, 0, none⟩), .pointer (some ⟨c5, 0, none⟩)] w (retP Q) := by
  refine tree_get_c1.calls ?_
  unfold tree_get_c1.F
  have hb01 := D.bitQ_v (st := y.1) (l := y.2) (i := place)
  obtain ⟨o1, o2⟩ := part_or (back := back) hbits hk hn hb01
  have hj : (if back then l.length else n - 1 - l.length) ≤ 64 := by split <;> omega
  repeat' (first | (refine pc_rcdec_Decoder_Bit (DBit_q (hS.fd2 (Dec d) (PSet p)) hy.s hy.f hb place ?_); clear hS; intro w hS) | refine pN_l hS (by first | rfl | assumption) ?_ | refine pL_l hS (by first | rfl | assumption) ?_ | (refine pDr_go hS ?_; clear hS; intro w hS) | refine pN_v (hk := ?_) | fail)
  generalize y.1.bitQ y.2 place = r at *
  repeat' (first | refine pc_tree_order (order_ok back n l.length hk hn ?_) | (refine pA_shl_k _ rfl hj ?_; rw [o1]) | rw [pA_or, o2] | (refine pN_s hS (by first | exact Nat.le_of_ble_eq_true rfl | assumption) (by rfl) ?_; clear hS; intro w hS; try simp only [List.set_cons_zero, List.set_cons_succ] at hS) | refine ⟨trivial, ?_⟩ | refine ⟨⟨(by first | exact run_l hS (by first | rfl | assumption) | exact run_st hS (by first | rfl | omega) | exact run_ld1 ha hS | exact fun _ => run_l hS (by rfl) | exact fun _ => run_st hS (by first | rfl | omega) | exact fun _ => run_ld1 ha hS | exact fun h => Bool.noConfusion h), trivial⟩, ?_⟩ | fail)
  exact hQ _ hS.to

theorem get_ok {z : D.A} (hS : Sat E w (Dec d z.1 :: PSet p z.2 :: M)) (hz : D.AOk z) (hb : z.1.b.length ≤ 225000000000000) (hl : z.2.length ≤ 1048576) (at_ n : Int) (back : Bool)
    (hQ : ∀ w, Sat E w (Dec d (D.gets z at_ n back).1.1 :: PSet p (D.gets z at_ n back).1.2 :: M) → Q (.tuple #[.int .i64 (D.gets z at_ n back).2.1, .int .i64 (D.gets z at_ n back).2.2]) w) :
    Calls Tryz.prog 212 #[.pointer (some ⟨d, 0, none⟩), .pointer (some ⟨p, 0, none⟩), .int .i64 at_, .int .i64 n, .bool back] w (retP Q) := by
  refine tree_get.calls ?_
  unfold tree_get.F
  refine pN_bx hS (by rfl) fun c1 w hS => ?_
  refine pN_bx hS (by rfl) fun c2 w hS => ?_
  refine pN_bx hS (by rfl) fun c5 w hS => ?_
  refine pN_bx hS (by rfl) fun c4 w hS => ?_
  by_cases ht : R.There z.2.length at_ n
  rotate_left 1
  · have t1 : decide (R.There z.2.length at_ n) = false := decide_eq_false ht
    simp only [D.gets, if_neg ht] at hQ
    repeat' (first | (refine pc_tree_there (there_ok (hS.fd (PSet p)) _ _ ?_); rw [t1]; clear hS; intro w hS) | refine pIf_t ?_ | refine pN_l hS (by first | rfl | assumption) ?_ | refine pN_v (hk := ?_) | fail)
    exact hQ _ hS.to
  have t1 : decide (R.There z.2.length at_ n) = true := decide_eq_true ht
  simp only [D.gets, if_pos ht] at hQ
  obtain ⟨n0, n1, a0, a1, a2⟩ := ht
  obtain ⟨n, rfl⟩ : ∃ m : Nat, n = m := ⟨n.toNat, by omega⟩
  rw [Int.toNat_natCast] at hQ a2
  repeat' (first | (refine pc_tree_there (there_ok (hS.fd (PSet p)) _ _ ?_); rw [t1]; clear hS; intro w hS) | (refine pN_nz hS ?_; clear hS; intro c3 w hS) | refine pIf_f ?_ | refine pN_l hS (by first | rfl | assumption) ?_ | (refine pN_s hS (by first | exact Nat.le_of_ble_eq_true rfl | assumption) (by rfl) ?_; clear hS; intro w hS; try simp only [List.set_cons_zero, List.set_cons_succ] at hS) | refine pN_fn ?_ | refine pN_v (hk := ?_) | fail)
  have hp0 : R.part back n [] = 0 := by cases back <;> simp [R.part, R.backv, R.horner]
  refine pc_tree_down (downG_ok at_ n _ z hz (by omega) a0 (by omega)
    (fun y l w => Sat E w (Dec d y.1 :: PSet p y.2 :: cel c1 ⟨76, [.pointer (some ⟨d, 0, none⟩)]⟩ :: cel c2 ⟨137, [.pointer (some ⟨p, 0, none⟩)]⟩ :: cel c3 ⟨3, [.int .i64 (R.part back n l)]⟩ :: cel c4 ⟨4, [.bool back]⟩ :: cel c5 ⟨3, [.int .i64 n]⟩ :: M)) (by rw [hp0]; exact hS.to) ?_ ?_)
  · intro y l w K hy hyz hbits hln hS h1 h2
    refine pv_tree_get_c1 (get_c1_ok (at_ + R.nodeL l) hS hy (by rw [hyz.b]; exact hb) hbits hln (by omega) fun w hS => ?_)
    rw [← R.part_snoc back hln] at hS
    by_cases h0 : (y.1.bitQ y.2 (at_ + R.nodeL l)).2.2.2 = 0
    · rw [h0]
      exact h1 w h0 hS
    · obtain ⟨e1, e2⟩ := D.bitQ_no h0
      have e3 : (y.1.bitQ y.2 (at_ + R.nodeL l)).2.2.1 = 0 := D.bitQ_v0 h0
      refine h2 w h0 ?_
      rw [e1, e2, R.part_snoc back hln, e3, Int.zero_mul, Int.add_zero] at hS
      exact hS
  · intro w hS
    have hok := D.walk_ok (at_ := at_) hz n
    by_cases h0 : (D.walk at_ z n).2.2 = 0
    · have hlen := hok.2.2.2 h0
      have hpe := R.part_end back (D.walk at_ z n).2.1
      rw [hlen] at hpe
      simp only [h0, if_true] at hQ ⊢
      rw [hpe] at hS
      repeat' (first | (refine pN_neq_s ?_ ?_ <;> intro hc <;> try (exfalso; first | omega | exact hc rfl | exact hc (by assumption) | exact absurd hc (by assumption))) | refine pIf_f ?_ | refine pN_l hS (by first | rfl | assumption) ?_ | fail)
      exact hQ _ hS.to
    · simp only [if_neg h0] at hQ
      repeat' (first | (refine pN_neq_s ?_ ?_ <;> intro hc <;> try (exfalso; first | omega | exact hc rfl | exact hc (by assumption) | exact absurd hc (by assumption))) | refine pIf_t ?_ | fail)
      exact hQ _ hS.to

theorem Get_ok {z : D.A} (hS : Sat E w (Dec d z.1 :: PSet p z.2 :: M)) (hz : D.AOk z) (hb : z.1.b.length ≤ 225000000000000) (hl : z.2.length ≤ 1048576) (at_ n : Int)
    (hQ : ∀ w, Sat E w (Dec d (D.gets z at_ n false).1.1 :: PSet p (D.gets z at_ n false).1.2 :: M) → Q (.tuple #[.int .i64 (D.gets z at_ n false).2.1, .int .i64 (D.gets z at_ n false).2.2]) w) :
    Calls Tryz.prog 202 #[.pointer (some ⟨d, 0, none⟩), .pointer (some ⟨p, 0, none⟩), .int .i64 at_, .int .i64 n] w (retP Q) := by
  refine tree_Get.calls ?_
  unfold tree_Get.F
  refine pc_tree_get (get_ok hS hz hb hl at_ n false fun w hS => ?_)
  repeat' (first | refine pN_v (hk := ?_) | fail)
  exact hQ w hS
theorem GetBack_ok {z : D.A} (hS : Sat E w (Dec d z.1 :: PSet p z.2 :: M)) (hz : D.AOk z) (hb : z.1.b.length ≤ 225000000000000) (hl : z.2.length ≤ 1048576) (at_ n : Int)
    (hQ : ∀ w, Sat E w (Dec d (D.gets z at_ n true).1.1 :: PSet p (D.gets z at_ n true).1.2 :: M) → Q (.tuple #[.int .i64 (D.gets z at_ n true).2.1, .int .i64 (D.gets z at_ n true).2.2]) w) :
    Calls Tryz.prog 203 #[.pointer (some ⟨d, 0, none⟩), .pointer (some ⟨p, 0, none⟩), .int .i64 at_, .int .i64 n] w (retP Q) := by
  refine tree_GetBack.calls ?_
  unfold tree_GetBack.F
  refine pc_tree_get (get_ok hS hz hb hl at_ n true fun w hS => ?_)
  repeat' (first | refine pN_v (hk := ?_) | fail)
  exact hQ w hS
end

end Go.Proofs.YtbgnnjfpiblkmaaGreatDoor

namespace Go.Proofs.YtbgnnjfpiblkmaaGreatDoor
open Go

def Rsd (p : Z.Pr) (B : List UInt8) (dd : Nat) (q : Nat → Nat) (z : Option Z.RS) : HA := fun h => ∃ y : Z.RS, (y.Ok p ∧ y.d.b = B ∧ ∀ s, z = some s → y = s) ∧ Sats [Dec dd y.d, tabs q y.T] h
abbrev rdCells (dec dd : Nat) (f : Bool) : List Value := [pz dec, pz dd, .bool f]
abbrev dcCells (t wd : Nat) (f : Bool) : List Value := [pz t, pz wd, .bool f]
section
variable {E w : World} {M : List HA} {p : Z.Pr} {B : List UInt8} {dd : Nat} {q : Nat → Nat} {z : Option Z.RS} {y : Z.RS}
theorem Rsd.opn (hS : Sat E w (Rsd p B dd q z :: M)) : ∃ y : Z.RS, y.Ok p ∧ y.d.b = B ∧ (∀ s, z = some s → y = s) ∧ Sat E w (Dec dd y.d :: tabs q y.T :: M) := by
  obtain ⟨y, hS⟩ := hS.ex
  obtain ⟨h1, ⟨hA, _⟩, _⟩ := hS.head
  exact ⟨y, hA.1, hA.2.1, hA.2.2, hS.open_ (M := [_, _]) fun _ h => h.2⟩
theorem Rsd.shut (hS : Sat E w (Dec dd y.d :: tabs q y.T :: M)) (h1 : y.Ok p) (h2 : y.d.b = B) (h3 : ∀ s, z = some s → y = s) : Sat E w (Rsd p B dd q z :: M) :=
  Sat.shut (M := [_, _]) hS fun _ h => ⟨y, ⟨h1, h2, h3⟩, h⟩
end
attribute [local irreducible] oMv oV oU oCall oCallV oBi oBin oUn oLoad oStore oNil oFld oField oIdx oIndex oPick oAlloc oBox oBuild oBs oConv oMk oSl oExt oFn oIface oMap oLook oMapUp oRange oNext oEntry oInv oAssert oPanic oRes pN pA pL pDr pIf gA pGd

section
variable {E w W : World} {M N : List HA} {Q : Value → World → Prop} {p : Z.Pr} {s : Z.St} {x : Z.W} {B : List UInt8} {r dec dd t wd : Nat} {q : Nat → Nat} {z : Option Z.RS}

theorem got_ok {v e : Int} {f : Bool} (hS : Sat E w (cel r ⟨233, rdCells dec dd f⟩ :: M)) (h0 : e = 0 → ∀ w, Sat E w (cel r ⟨233, rdCells dec dd f⟩ :: M) → Q (.int .i64 v) w) (h1 : e ≠ 0 → ∀ w, Sat E w (cel r ⟨233, rdCells dec dd true⟩ :: M) → Q (.int .i64 0) w) :
    Calls Tryz.prog 187 #[pz r, .int .i64 v, .int .i64 e] w (retP Q) := by
  refine lzdec_reader_got.calls ?_
  unfold lzdec_reader_got.F
  by_cases he : e = 0
  · repeat' (first | (refine pN_neq_s ?_ ?_ <;> intro hc <;> try (exfalso; first | omega | exact hc rfl | exact hc (by assumption) | exact absurd hc (by assumption))) | refine pIf_f ?_ | fail)
    exact h0 he _ hS.to
  · repeat' (first | (refine pN_neq_s ?_ ?_ <;> intro hc <;> try (exfalso; first | omega | exact hc rfl | exact hc (by assumption) | exact absurd hc (by assumption))) | refine pIf_t ?_ | (refine pN_s hS (by first | exact Nat.le_of_ble_eq_true rfl | assumption) (by rfl) ?_; clear hS; intro w hS; try simp only [List.set_cons_zero, List.set_cons_succ] at hS) | refine pN_v (hk := ?_) | fail)
    exact h1 he _ hS.to

theorem rbit_ok (hS : Sat E w (cel r ⟨233, rdCells dec dd z.isNone⟩ :: Rsd p B dd q z :: M)) (hB : B.length ≤ 225000000000000) (t : Nat) (ht : t < 18) (i : Int) (i0 : 0 ≤ i) (i1 : i < Z.tabLen p t)
    (hQ : ∀ y v w, Z.Got (.bit t i .ret) z y v → (v = 0 ∨ v = 1) → Sat E w (cel r ⟨233, rdCells dec dd y.isNone⟩ :: Rsd p B dd q y :: M) → Q (.int .i64 v) w) :
    Calls Tryz.prog 167 #[pz r, pz (q t), .int .i64 i] w (retP Q) := by
  refine lzdec_reader_bit.calls ?_
  unfold lzdec_reader_bit.F
  cases z with
  | none =>
    simp only [Option.isNone_none] at hS
    repeat' (first | refine pIf_t ?_ | refine pN_l hS (by first | rfl | assumption) ?_ | refine pN_v (hk := ?_) | fail)
    exact hQ none 0 _ rfl (.inl rfl) hS
  | some s =>
    simp only [Option.isNone_some] at hS
    have hO := Rsd.opn (hS.fd (Rsd p B dd q))
    clear hS
    obtain ⟨s', ho, hb, hs, hS⟩ := hO
    obtain rfl := hs s rfl
    have hlen := ho.T.len t ht
    have hask := Z.ask_bitQ (z := s') (t := t) (i := i) (by omega) (by omega)
    have hok := D.bitQ_ok ho.d (ho.T.fine t) i
    have h01 := D.bitQ_v (st := s'.d) (l := s'.T t) (i := i)
    have hS := tabs_out (hS.fd (tabs q)) t ht
    repeat' (first | (refine pc_rcdec_Decoder_Bit (DBit_q (hS.fd2 (Dec dd) (PSet (q t))) ho.d (ho.T.fine t) (by rw [hb]; exact hB) i ?_); clear hS; intro w hS) | refine pIf_f ?_ | refine pN_l hS (by first | rfl | assumption) ?_ | refine pN_v (hk := ?_) | fail)
    have hT : Z.TabOk p (Z.upd s'.T t (s'.d.bitQ (s'.T t) i).2.1) := by
      refine ⟨fun k hk => ?_, fun k => ?_⟩
      · by_cases hkt : k = t
        · subst hkt; rw [Z.upd_self, hok.2.2.2]; exact hlen
        · rw [Z.upd_ne _ _ hkt]; exact ho.T.len k hk
      · by_cases hkt : k = t
        · subst hkt; rw [Z.upd_self]; exact hok.2.2.1
        · rw [Z.upd_ne _ _ hkt]; exact ho.T.fine k
    generalize s'.d.bitQ (s'.T t) i = u at *
    have hS := tabs_into (hS.fd2 (PSet (q t)) (tabsBut q s'.T)) ht
    refine pc_lzdec_reader_got (got_ok (hS.fd (cel r)) (fun h0 w hS => ?_) fun h1 w hS => ?_)
    · rw [if_pos h0] at hask
      exact hQ (some ⟨u.1, Z.upd s'.T t u.2.1⟩) _ _ (by show Z.Rd.run _ _ = _; rw [Z.Rd.run, hask]; rfl) h01 ((Rsd.shut (y := ⟨u.1, Z.upd s'.T t u.2.1⟩) (p := p) (B := B) (z := some ⟨u.1, Z.upd s'.T t u.2.1⟩) (hS.fd2 (Dec dd) (tabs q)) ⟨hok.1, hT⟩ (hok.2.1.trans hb) (fun _ h => by cases h; rfl)).fd2 (cel r) (Rsd p B dd q))
    · rw [if_neg h1] at hask
      exact hQ none 0 _ (by show Z.Rd.run _ _ = _; rw [Z.Rd.run, hask]; rfl) (.inl rfl) ((Rsd.shut (y := ⟨u.1, Z.upd s'.T t u.2.1⟩) (p := p) (B := B) (z := none) (hS.fd2 (Dec dd) (tabs q)) ⟨hok.1, hT⟩ (hok.2.1.trans hb) (fun _ h => by cases h)).fd2 (cel r) (Rsd p B dd q))

theorem gets_tab {T : Nat → List Int} (hT : Z.TabOk p T) {d : D.S} (hd : D.Ok d) {t : Nat} (ht : t < 18) (at_ n : Int) (back : Bool) : Z.TabOk p (Z.upd T t (D.gets (d, T t) at_ n back).1.2) ∧ D.Ok (D.gets (d, T t) at_ n back).1.1 ∧ (D.gets (d, T t) at_ n back).1.1.b = d.b := by
  obtain ⟨h1, h2⟩ := D.gets_ok (z := (d, T t)) ⟨hd, hT.fine t⟩ at_ n back
  refine ⟨⟨fun k hk => ?_, fun k => ?_⟩, h1.s, h2.b⟩
  · by_cases hkt : k = t
    · subst hkt; rw [Z.upd_self, h2.n]; exact hT.len k hk
    · rw [Z.upd_ne _ _ hkt]; exact hT.len k hk
  · by_cases hkt : k = t
    · subst hkt; rw [Z.upd_self]; exact h1.f
    · rw [Z.upd_ne _ _ hkt]; exact hT.fine k
theorem rtree_ok (hS : Sat E w (cel r ⟨233, rdCells dec dd z.isNone⟩ :: Rsd p B dd q z :: M)) (hp : p.Ok) (hB : B.length ≤ 225000000000000) (t : Nat) (ht : t < 18) (at_ : Int) (n : Nat) (hth : R.There (Z.tabLen p t) at_ n)
    (hQ : ∀ y v w, Z.Got (Z.treeRd false t at_ n) z y v → 0 ≤ v → v < 2 ^ n → Sat E w (cel r ⟨233, rdCells dec dd y.isNone⟩ :: Rsd p B dd q y :: M) → Q (.int .i64 v) w) :
    Calls Tryz.prog 188 #[pz r, pz (q t), .int .i64 at_, .int .i64 n] w (retP Q) := by
  refine lzdec_reader_tree.calls ?_
  unfold lzdec_reader_tree.F
  cases z with
  | none =>
    simp only [Option.isNone_none] at hS
    repeat' (first | refine pIf_t ?_ | refine pN_l hS (by first | rfl | assumption) ?_ | refine pN_v (hk := ?_) | fail)
    exact hQ none 0 _ rfl (Int.le_refl _) (Int.pow_pos (by omega)) hS
  | some s =>
    simp only [Option.isNone_some] at hS
    have hO := Rsd.opn (hS.fd (Rsd p B dd q))
    clear hS
    obtain ⟨s', ho, hb, hs, hS⟩ := hO
    obtain rfl := hs s rfl
    have hlen := ho.T.len t ht
    have hrun := Z.gets_run ho (back := false) ht hth
    have hbd := Z.gets_bd ho (back := false) ht hth
    have htab := gets_tab ho.T ho.d ht at_ n false
    have hl := Nat.le_trans (Z.tabLen_bd hp t) (show 12288 ≤ 1048576 by decide)
    rw [← hlen] at hl
    have hS := tabs_out (hS.fd (tabs q)) t ht
    repeat' (first | (refine pc_tree_Get (Get_ok (z := (s'.d, s'.T t)) (hS.fd2 (Dec dd) (PSet (q t))) ⟨ho.d, ho.T.fine t⟩ (by show s'.d.b.length ≤ _; rw [hb]; exact hB) hl at_ n ?_); clear hS; intro w hS) | refine pIf_f ?_ | refine pN_l hS (by first | rfl | assumption) ?_ | refine pN_v (hk := ?_) | fail)
    generalize D.gets (s'.d, s'.T t) at_ n false = u at *
    have hS := tabs_into (hS.fd2 (PSet (q t)) (tabsBut q s'.T)) ht
    refine pc_lzdec_reader_got (got_ok (hS.fd (cel r)) (fun h0 w hS => ?_) fun h1 w hS => ?_)
    · rw [if_pos h0] at hrun
      exact hQ (some ⟨u.1.1, Z.upd s'.T t u.1.2⟩) _ _ hrun hbd.1 hbd.2.1 ((Rsd.shut (y := ⟨u.1.1, Z.upd s'.T t u.1.2⟩) (p := p) (B := B) (z := some ⟨u.1.1, Z.upd s'.T t u.1.2⟩) (hS.fd2 (Dec dd) (tabs q)) ⟨htab.2.1, htab.1⟩ (htab.2.2.trans hb) (fun _ h => by cases h; rfl)).fd2 (cel r) (Rsd p B dd q))
    · rw [if_neg h1] at hrun
      exact hQ none 0 _ hrun (Int.le_refl _) (Int.pow_pos (by omega)) ((Rsd.shut (y := ⟨u.1.1, Z.upd s'.T t u.1.2⟩) (p := p) (B := B) (z := none) (hS.fd2 (Dec dd) (tabs q)) ⟨htab.2.1, htab.1⟩ (htab.2.2.trans hb) (fun _ h => by cases h)).fd2 (cel r) (Rsd p B dd q))

theorem rback_ok (hS : Sat E w (cel r ⟨233, rdCells dec dd z.isNone⟩ :: Rsd p B dd q z :: M)) (hp : p.Ok) (hB : B.length ≤ 225000000000000) (t : Nat) (ht : t < 18) (at_ : Int) (n : Nat) (hth : R.There (Z.tabLen p t) at_ n)
    (hQ : ∀ y v w, Z.Got (Z.treeRd true t at_ n) z y v → 0 ≤ v → v < 2 ^ n → Sat E w (cel r ⟨233, rdCells dec dd y.isNone⟩ :: Rsd p B dd q y :: M) → Q (.int .i64 v) w) :
    Calls Tryz.prog 189 #[pz r, pz (q t), .int .i64 at_, .int .i64 n] w (retP Q) := by
  refine lzdec_reader_back.calls ?_
  unfold lzdec_reader_back.F
  cases z with
  | none =>
    simp only [Option.isNone_none] at hS
    repeat' (first | refine pIf_t ?_ | refine pN_l hS (by first | rfl | assumption) ?_ | refine pN_v (hk := ?_) | fail)
    exact hQ none 0 _ rfl (Int.le_refl _) (Int.pow_pos (by omega)) hS
  | some s =>
    simp only [Option.isNone_some] at hS
    have hO := Rsd.opn (hS.fd (Rsd p B dd q))
    clear hS
    obtain ⟨s', ho, hb, hs, hS⟩ := hO
    obtain rfl := hs s rfl
    have hlen := ho.T.len t ht
    have hrun := Z.gets_run ho (back := true) ht hth
    have hbd := Z.gets_bd ho (back := true) ht hth
    have htab := gets_tab ho.T ho.d ht at_ n true
    have hl := Nat.le_trans (Z.tabLen_bd hp t) (show 12288 ≤ 1048576 by decide)
    rw [← hlen] at hl
    have hS := tabs_out (hS.fd (tabs q)) t ht
    repeat' (first | (refine pc_tree_GetBack (GetBack_ok (z := (s'.d, s'.T t)) (hS.fd2 (Dec dd) (PSet (q t))) ⟨ho.d, ho.T.fine t⟩ (by show s'.d.b.length ≤ _; rw [hb]; exact hB) hl at_ n ?_); clear hS; intro w hS) | refine pIf_f ?_ | refine pN_l hS (by first | rfl | assumption) ?_ | refine pN_v (hk := ?_) | fail)
    generalize D.gets (s'.d, s'.T t) at_ n true = u at *
    have hS := tabs_into (hS.fd2 (PSet (q t)) (tabsBut q s'.T)) ht
    refine pc_lzdec_reader_got (got_ok (hS.fd (cel r)) (fun h0 w hS => ?_) fun h1 w hS => ?_)
    · rw [if_pos h0] at hrun
      exact hQ (some ⟨u.1.1, Z.upd s'.T t u.1.2⟩) _ _ hrun hbd.1 hbd.2.1 ((Rsd.shut (y := ⟨u.1.1, Z.upd s'.T t u.1.2⟩) (p := p) (B := B) (z := some ⟨u.1.1, Z.upd s'.T t u.1.2⟩) (hS.fd2 (Dec dd) (tabs q)) ⟨htab.2.1, htab.1⟩ (htab.2.2.trans hb) (fun _ h => by cases h; rfl)).fd2 (cel r) (Rsd p B dd q))
    · rw [if_neg h1] at hrun
      exact hQ none 0 _ hrun (Int.le_refl _) (Int.pow_pos (by omega)) ((Rsd.shut (y := ⟨u.1.1, Z.upd s'.T t u.1.2⟩) (p := p) (B := B) (z := none) (hS.fd2 (Dec dd) (tabs q)) ⟨htab.2.1, htab.1⟩ (htab.2.2.trans hb) (fun _ h => by cases h)).fd2 (cel r) (Rsd p B dd q))

theorem dirQ_bd {d : D.S} {n : Nat} (hn : n ≤ 32) : 0 ≤ (d.dirQ n).2.1 ∧ (d.dirQ n).2.1 < 2 ^ n := by
  unfold D.S.dirQ
  rw [if_pos (by omega), Int.toNat_natCast]
  have p0 : (0 : Int) < 2 ^ n := Int.pow_pos (by omega)
  cases e : d.direct 0 n with
  | no e' => exact ⟨Int.le_refl _, p0⟩
  | ok t u =>
    have key : ∀ (n : Nat) {d t : D.S} {v u : Int}, 0 ≤ v → d.direct v n = .ok t u → v * 2 ^ n ≤ u ∧ u < (v + 1) * 2 ^ n := by
      intro n
      induction n with
      | zero => intro d t v u hv e; cases e; simp; omega
      | succ n ih =>
        intro d t v u hv e
        simp only [D.S.direct] at e
        split at e
        · cases e
        · split at e
          · cases e
          · have h01 := D.bitAt_01 d (d.R / 2)
            have := ih (by omega) e
            have p1 : (0 : Int) < 2 ^ n := Int.pow_pos (by omega)
            rw [Int.pow_succ]
            generalize (2 : Int) ^ n = W at *
            rcases h01 with h | h <;> rw [h] at this
            · constructor <;> grind
            · constructor <;> grind
    have := key n (Int.le_refl 0) e
    simp only
    omega
theorem rdirect_ok (hS : Sat E w (cel r ⟨233, rdCells dec dd z.isNone⟩ :: Rsd p B dd q z :: M)) (hB : B.length ≤ 225000000000000) (n : Nat) (hn : n ≤ 32)
    (hQ : ∀ y v w, Z.Got (Z.dirRd n 0) z y v → 0 ≤ v → v < 2 ^ n → Sat E w (cel r ⟨233, rdCells dec dd y.isNone⟩ :: Rsd p B dd q y :: M) → Q (.int .i64 v) w) :
    Calls Tryz.prog 190 #[pz r, .int .i64 n] w (retP Q) := by
  refine lzdec_reader_direct.calls ?_
  unfold lzdec_reader_direct.F
  cases z with
  | none =>
    simp only [Option.isNone_none] at hS
    repeat' (first | refine pIf_t ?_ | refine pN_l hS (by first | rfl | assumption) ?_ | refine pN_v (hk := ?_) | fail)
    exact hQ none 0 _ rfl (Int.le_refl _) (Int.pow_pos (by omega)) hS
  | some s =>
    simp only [Option.isNone_some] at hS
    have hO := Rsd.opn (hS.fd (Rsd p B dd q))
    clear hS
    obtain ⟨s', ho, hb, hs, hS⟩ := hO
    obtain rfl := hs s rfl
    have hrun := Z.dirQ_run (s := s') hn
    have hbd := dirQ_bd (d := s'.d) hn
    have hok := D.dirQ_ok ho.d n
    have h32 : (2 : Int) ^ n ≤ 2 ^ 32 := two_le' hn
    have e32 : (2 : Int) ^ 32 = 4294967296 := by decide
    repeat' (first | (refine pc_rcdec_Decoder_Direct (DDirect_q (hS.fd (Dec dd)) ho.d (by rw [hb]; exact hB) n ?_); clear hS; intro w hS) | refine pIf_f ?_ | refine pN_l hS (by first | rfl | assumption) ?_ | refine pN_v (hk := ?_) | fail)
    generalize s'.d.dirQ n = u at *
    skip
    refine pc_lzdec_reader_got (got_ok (hS.fd (cel r)) (fun h0 w hS => ?_) fun h1 w hS => ?_)
    · rw [if_pos h0] at hrun
      exact hQ (some ⟨u.1, s'.T⟩) _ _ hrun hbd.1 hbd.2 ((Rsd.shut (y := ⟨u.1, s'.T⟩) (p := p) (B := B) (z := some ⟨u.1, s'.T⟩) (hS.fd2 (Dec dd) (tabs q)) ⟨hok.1, ho.T⟩ (hok.2.trans hb) (fun _ h => by cases h; rfl)).fd2 (cel r) (Rsd p B dd q))
    · rw [if_neg h1] at hrun
      exact hQ none 0 _ hrun (Int.le_refl _) (Int.pow_pos (by omega)) ((Rsd.shut (y := ⟨u.1, s'.T⟩) (p := p) (B := B) (z := none) (hS.fd2 (Dec dd) (tabs q)) ⟨hok.1, ho.T⟩ (hok.2.trans hb) (fun _ h => by cases h)).fd2 (cel r) (Rsd p B dd q))
end

end Go.Proofs.YtbgnnjfpiblkmaaGreatDoor

namespace Go.Proofs.YtbgnnjfpiblkmaaGreatDoor
open Go

def LEnc (b : Nat) (e : Z.EZ) : HA := fun h => ∃ k : Nat × Nat × Nat × (Nat → Nat), e.Ok ∧ Sats [cel b ⟨128, encCells k.1 k.2.1 k.2.2.1⟩, cel k.1 ⟨141, tbCells e.p e.st k.2.2.2⟩, Win k.2.1 e.x, Enc k.2.2.1 e.s, tabs k.2.2.2 e.T] h
section
variable {E w : World} {M : List HA} {b t wd en : Nat} {q : Nat → Nat} {e : Z.EZ}
theorem LEnc.opn (hS : Sat E w (LEnc b e :: M)) : e.Ok ∧ ∃ t wd en q, Sat E w (cel b ⟨128, encCells t wd en⟩ :: cel t ⟨141, tbCells e.p e.st q⟩ :: Win wd e.x :: Enc en e.s :: tabs q e.T :: M) := by
  obtain ⟨k, hS⟩ := hS.ex
  obtain ⟨h1, ⟨hA, _⟩, _⟩ := hS.head
  exact ⟨hA, k.1, k.2.1, k.2.2.1, k.2.2.2, hS.open_ (M := [_, _, _, _, _]) fun _ h => h.2⟩
theorem LEnc.shut (hS : Sat E w (cel b ⟨128, encCells t wd en⟩ :: cel t ⟨141, tbCells e.p e.st q⟩ :: Win wd e.x :: Enc en e.s :: tabs q e.T :: M)) (he : e.Ok) : Sat E w (LEnc b e :: M) :=
  Sat.shut (M := [_, _, _, _, _]) hS fun _ h => ⟨(t, wd, en, q), he, h⟩
theorem cel_conv {E w : World} {M : List HA} {t : Nat} {o o' : Ob} (h : o = o') (hS : Sat E w (cel t o :: M)) : Sat E w (cel t o' :: M) := h ▸ hS
end
attribute [local irreducible] oMv oV oU oCall oCallV oBi oBin oUn oLoad oStore oNil oFld oField oIdx oIndex oPick oAlloc oBox oBuild oBs oConv oMk oSl oExt oFn oIface oMap oLook oMapUp oRange oNext oEntry oInv oAssert oPanic oRes pN pA pL pDr pIf gA pGd

section
variable {E w W : World} {M N : List HA} {Q : Value → World → Prop} {b : Nat} {e : Z.EZ} {y : Z.Y}

end

end Go.Proofs.YtbgnnjfpiblkmaaGreatDoor

namespace Go.Proofs.YtbgnnjfpiblkmaaGreatDoor
open Go

theorem laid_get12 {W : World} {l : List (String × DataW Unit)} {ps : List MemPlace} (hl : DataW.LaidVars Tryz.prog W l ps) {n : String} {g : Nat} (k : Int) (hm : (n, DataW.agg (((List.range 12).map fun i : Nat => Z.moved (i : Int) k).map fun z => .lit (.int .i64 z))) ∈ l)
    (hg : Tryz.prog.globalNamed n = some g) (ht : (Tryz.prog.globals[g]?).map (·.type) = some 234) (i : Nat) (hi : i < 12) : W.cell? ⟨g, i, none⟩ = some (.int .i64 (Z.moved i k)) :=
  laid_ints hl ((List.range 12).map fun i : Nat => Z.moved (i : Int) k) hm hg ht Tryz.underlying234 (by kernel_rfl) Tryz.underlying3 i (Z.moved i k) hi (by rw [List.getElem?_map, List.getElem?_range hi]; rfl)

theorem glo_of_laid {W : World} {l : List (String × DataW Unit)} (h : laidMetH Tryz.prog l W) (hp : (l.filter fun x => x.2.handleName?.isSome) = []) (m1 : ("pith/state.afterLit", Rows.laid_pith_state_afterLit) ∈ l) (m2 : ("pith/state.afterMatch", Rows.laid_pith_state_afterMatch) ∈ l)
    (m3 : ("pith/state.afterRep", Rows.laid_pith_state_afterRep) ∈ l) (m4 : ("pith/state.afterShort", Rows.laid_pith_state_afterShort) ∈ l) : Glo W := by
  unfold laidMetH at h
  rw [hp] at h
  obtain ⟨ps, hv, _⟩ := h
  exact ⟨laid_get12 hv 1 m1 (by kernel_rfl) (by kernel_rfl), laid_get12 hv 2 m2 (by kernel_rfl) (by kernel_rfl), laid_get12 hv 3 m3 (by kernel_rfl) (by kernel_rfl), laid_get12 hv 4 m4 (by kernel_rfl) (by kernel_rfl)⟩
end Go.Proofs.YtbgnnjfpiblkmaaGreatDoor

namespace Go.Proofs.YtbgnnjfpiblkmaaGreatDoor
open Go

namespace Z
end Z
attribute [local irreducible] oMv oV oU oCall oCallV oBi oBin oUn oLoad oStore oNil oFld oField oIdx oIndex oPick oAlloc oBox oBuild oBs oConv oMk oSl oExt oFn oIface oMap oLook oMapUp oRange oNext oEntry oInv oAssert oPanic oRes pN pA pL pDr pIf gA pGd

section
variable {E w W : World} {M N : List HA} {Q : Value → World → Prop}

end

end Go.Proofs.YtbgnnjfpiblkmaaGreatDoor

namespace Go.Proofs.YtbgnnjfpiblkmaaGreatDoor
open Go
namespace Z
def preR : Pre := fun k => match k with
  | 0 => [109, 97, 116, 99, 104] | 1 => [108, 111, 110, 103] | 2 => [114, 101, 112] | 3 => [114, 101, 112, 48] | 4 => [114, 101, 112, 49] | 5 => [114, 101, 112, 50]
  | 6 => [76, 105, 116, 101, 114, 97, 108]
  | 7 => [77, 97, 116, 99, 104] ++ [32, 111, 110, 101] | 8 => [77, 97, 116, 99, 104] ++ [32, 116, 119, 111] | 9 => [77, 97, 116, 99, 104] ++ [32, 108, 111, 119] | 10 => [77, 97, 116, 99, 104] ++ [32, 109, 105, 100] | 11 => [77, 97, 116, 99, 104] ++ [32, 104, 105, 103, 104]
  | 12 => [82, 101, 112] ++ [32, 111, 110, 101] | 13 => [82, 101, 112] ++ [32, 116, 119, 111] | 14 => [82, 101, 112] ++ [32, 108, 111, 119] | 15 => [82, 101, 112] ++ [32, 109, 105, 100] | 16 => [82, 101, 112] ++ [32, 104, 105, 103, 104]
  | 17 => [83, 108, 111, 116] | 18 => [82, 101, 115, 116] | _ => [65, 108, 105, 103, 110]
theorem bitQ_e (st : D.S) (l : List Int) (i : Int) : 0 ≤ (st.bitQ l i).2.2.2 ∧ (st.bitQ l i).2.2.2 ≤ 7 := by
  unfold D.S.bitQ
  split
  · cases h : st.bit (B.bound st.R (l.getD i.toNat 0)) with
    | ok t v => exact ⟨Int.le_refl _, by show (0 : Int) ≤ 7; omega⟩
    | no e =>
      unfold D.S.bit at h
      split at h
      · cases h
      · cases h; exact ⟨by show (0 : Int) ≤ 1; omega, by show (1 : Int) ≤ 7; omega⟩
  · exact ⟨by show (0 : Int) ≤ 7; omega, by show (7 : Int) ≤ 7; omega⟩
def freshR : List Int := List.replicate 1024 1024
end Z
instance mt_rsets : MapT Tryz.prog 77 ske (.pointer none) :=
  ⟨_, _, Tryz.underlying77, Tryz.zeroValue137, KeyC.of (κ := Key) (Maps.string_keyed Tryz.underlying9) (fun l => Lit.string l.1) (fun k => key_str k) (fun a b h => Subtype.ext (by simpa [ske] using h))⟩
abbrev QSets (bm : Nat) (N : Key → List Int) : HA := NSets PSet Z.freshR bm N
def QRd (p : Z.Pr) (B : List UInt8) (dd bm : Nat) (z : Option Z.RS) : HA := fun h => ∃ k : Z.RS × (Key → List Int), (k.1.Ok p ∧ k.1.d.b = B ∧ (∀ s, z = some s → k.1 = s) ∧ Z.Rel Z.preR 1024 p k.2 k.1.T) ∧ Sats [Dec dd k.1.d, QSets bm k.2] h
section
variable {E w : World} {M : List HA} {p : Z.Pr} {B : List UInt8} {dd bm : Nat} {z : Option Z.RS} {y : Z.RS} {N : Key → List Int}
theorem QRd.opn (hS : Sat E w (QRd p B dd bm z :: M)) : ∃ (y : Z.RS) (N : Key → List Int), y.Ok p ∧ y.d.b = B ∧ (∀ s, z = some s → y = s) ∧ Z.Rel Z.preR 1024 p N y.T ∧ Sat E w (Dec dd y.d :: QSets bm N :: M) := by
  obtain ⟨k, hS⟩ := hS.ex
  obtain ⟨h1, ⟨hA, _⟩, _⟩ := hS.head
  exact ⟨k.1, k.2, hA.1, hA.2.1, hA.2.2.1, hA.2.2.2, hS.open_ (M := [_, _]) fun _ h => h.2⟩
theorem QRd.shut (hS : Sat E w (Dec dd y.d :: QSets bm N :: M)) (h1 : y.Ok p) (h2 : y.d.b = B) (h3 : ∀ s, z = some s → y = s) (h4 : Z.Rel Z.preR 1024 p N y.T) : Sat E w (QRd p B dd bm z :: M) :=
  Sat.shut (M := [_, _]) hS fun _ h => ⟨(y, N), ⟨h1, h2, h3, h4⟩, h⟩
end
attribute [local irreducible] oMv oV oU oCall oCallV oBi oBin oUn oLoad oStore oNil oFld oField oIdx oIndex oPick oAlloc oBox oBuild oBs oConv oMk oSl oExt oFn oIface oMap oLook oMapUp oRange oNext oEntry oInv oAssert oPanic oRes pN pA pL pDr pIf gA pGd Calls

section
variable {E w W : World} {M : List HA} {Q : Value → World → Prop} {p : Z.Pr} {st : Z.St} {B : List UInt8} {r dd bm n : Nat} {sa s0 : Sl} {z : Option Z.RS} {nme : List UInt8} {l : List Int} {t : Nat} {i j : Int}
end
end Go.Proofs.YtbgnnjfpiblkmaaGreatDoor

namespace Go.Proofs.YtbgnnjfpiblkmaaGreatDoor
open Go
theorem Sat.fd5 {E w : World} {L M N O R T : List HA} {σ τ υ φ χ : Type} (hS : Sat E w L) (F : σ → HA) (G : τ → HA) (H : υ → HA) (I : φ → HA) (J : χ → HA) {a : σ} {b : τ} {c : υ} {d : φ} {e : χ} [h1 : Fnd F L a M] [h2 : Fnd G M b N] [h3 : Fnd H N c O] [h4 : Fnd I O d R] [h5 : Fnd J R e T] : Sat E w (F a :: G b :: H c :: I d :: J e :: T) :=
  (hS.fd4 F G H I).perm (((((h5.perm).cons _).cons _).cons _).cons _)
attribute [local irreducible] oMv oV oU oCall oCallV oBi oBin oUn oLoad oStore oNil oFld oField oIdx oIndex oPick oAlloc oBox oBuild oBs oConv oMk oSl oExt oFn oIface oMap oLook oMapUp oRange oNext oEntry oInv oAssert oPanic oRes pN pA pL pDr pIf gA pGd

section
variable {E w W : World} {M N : List HA} {Q : Value → World → Prop} {p : Z.Pr} {s : Z.St} {x : Z.W} {B : List UInt8} {r dec dd t wd : Nat} {q : Nat → Nat} {z : Option Z.RS} {f : Bool}

set_option maxHeartbeats 1000000 in
theorem rlength_ok (k : Nat) (hkk : k = 7 ∨ k = 11) (hp : p.Ok) (hB : B.length ≤ 225000000000000) (hx : x.all.length ≤ 4611686018427387904)
    (hS : Sat E w (cel r ⟨233, rdCells dec dd z.isNone⟩ :: Rsd p B dd q z :: cel dec ⟨171, dcCells t wd f⟩ :: cel t ⟨141, tbCells p s q⟩ :: Win wd x :: M))
    (hQ : ∀ y v w, Z.Got (Z.lenRd k p x.all.length) z y v → Z.isLen v → Sat E w (cel r ⟨233, rdCells dec dd y.isNone⟩ :: Rsd p B dd q y :: cel dec ⟨171, dcCells t wd f⟩ :: cel t ⟨141, tbCells p s q⟩ :: Win wd x :: M) → Q (.int .i64 v) w) :
    Calls Tryz.prog 169 #[pz r, .agg #[pz (q k), pz (q (k + 1)), pz (q (k + 2)), pz (q (k + 3))]] w (retP Q) := by
  refine lzdec_reader_length.calls ?_
  unfold lzdec_reader_length.F
  have hpl := place_bd hp x.all.length
  obtain ⟨t0, t1, t2, t3⟩ := Z.tab_c p k hkk
  have e3 : (2 : Int) ^ 3 = 8 := by decide
  have e8 : (2 : Int) ^ 8 = 256 := by decide
  repeat' (first | (refine pc_window_Window_Pos (Pos_ok (hS.fd (Win wd)) ?_); clear hS; intro w hS) | (refine pc_model_Tables_PlaceState (PlaceState_ok (hS.fd (cel t)) hp _ (by omega) (by omega) ?_); clear hS; intro w hS) | refine pN_l hS (by first | rfl | assumption) ?_ | refine pL_l hS (by first | rfl | assumption) ?_ | (refine pDr_go hS ?_; clear hS; intro w hS) | (refine pN_bx hS (by rfl) ?_; clear hS; intro a w hS) | refine ⟨trivial, ?_⟩ | refine ⟨⟨(by first | exact run_l hS (by first | rfl | assumption) | exact run_st hS (by first | rfl | omega) | exact run_ld1 ha hS | exact fun _ => run_l hS (by rfl) | exact fun _ => run_st hS (by first | rfl | omega) | exact fun _ => run_ld1 ha hS | exact fun h => Bool.noConfusion h), (by first | exact run_l hS (by first | rfl | assumption) | exact run_st hS (by first | rfl | omega) | exact run_ld1 ha hS | exact fun _ => run_l hS (by rfl) | exact fun _ => run_st hS (by first | rfl | omega) | exact fun _ => run_ld1 ha hS | exact fun h => Bool.noConfusion h), trivial⟩, ?_⟩ | refine pN_v (hk := ?_) | refine pA_v (hk := ?_) | fail)
  refine pc_lzdec_reader_bit (rbit_ok (hS.fd2 (cel r) (Rsd p B dd q)) hB k (by omega) 0 (by omega) (by omega) fun z1 b1 w g1 hb1 hS => ?_)
  rcases hb1 with rfl | rfl
  · repeat' (first | (refine pN_eql_s ?_ ?_ <;> intro hc <;> try (exfalso; first | omega | exact hc rfl | exact hc (by assumption) | exact absurd hc (by assumption))) | refine pIf_t ?_ | refine pN_l hS (by first | rfl | assumption) ?_ | refine pN_v (hk := ?_) | fail)
    refine pc_lzdec_reader_tree (rtree_ok (hS.fd2 (cel r) (Rsd p B dd q)) hp hB (k + 1) (by omega) _ 3 ⟨by omega, by omega, by omega, by omega, by show (2 : Int) ^ 3 ≤ _; omega⟩ fun z2 v2 w g2 v0 v1 hS => ?_)
    rw [e3] at v1
    repeat' (first | refine pN_v (hk := ?_) | fail)
    refine hQ z2 _ _ (Z.Got.bit g1 ?_) ⟨by omega, by omega⟩ hS.to
    rw [if_pos rfl]
    exact g2.map
  · repeat' (first | (refine pN_eql_s ?_ ?_ <;> intro hc <;> try (exfalso; first | omega | exact hc rfl | exact hc (by assumption) | exact absurd hc (by assumption))) | refine pIf_f ?_ | refine pN_l hS (by first | rfl | assumption) ?_ | refine pN_v (hk := ?_) | fail)
    refine pc_lzdec_reader_bit (rbit_ok (hS.fd2 (cel r) (Rsd p B dd q)) hB k (by omega) 1 (by omega) (by omega) fun z2 b2 w g2 hb2 hS => ?_)
    rcases hb2 with rfl | rfl
    · repeat' (first | (refine pN_eql_s ?_ ?_ <;> intro hc <;> try (exfalso; first | omega | exact hc rfl | exact hc (by assumption) | exact absurd hc (by assumption))) | refine pIf_t ?_ | refine pN_l hS (by first | rfl | assumption) ?_ | refine pN_v (hk := ?_) | fail)
      refine pc_lzdec_reader_tree (rtree_ok (hS.fd2 (cel r) (Rsd p B dd q)) hp hB (k + 2) (by omega) _ 3 ⟨by omega, by omega, by omega, by omega, by show (2 : Int) ^ 3 ≤ _; omega⟩ fun z3 v3 w g3 v0 v1 hS => ?_)
      rw [e3] at v1
      repeat' (first | refine pN_v (hk := ?_) | fail)
      refine hQ z3 _ _ (Z.Got.bit g1 ?_) ⟨by omega, by omega⟩ hS.to
      rw [if_neg (by decide)]
      refine Z.Got.bit g2 ?_
      rw [if_pos rfl]
      exact g3.map
    · repeat' (first | (refine pN_eql_s ?_ ?_ <;> intro hc <;> try (exfalso; first | omega | exact hc rfl | exact hc (by assumption) | exact absurd hc (by assumption))) | refine pIf_f ?_ | refine pN_l hS (by first | rfl | assumption) ?_ | refine pN_v (hk := ?_) | fail)
      refine pc_lzdec_reader_tree (rtree_ok (hS.fd2 (cel r) (Rsd p B dd q)) hp hB (k + 3) (by omega) _ 8 ⟨by omega, by omega, by omega, by omega, by show (2 : Int) ^ 8 ≤ _; omega⟩ fun z3 v3 w g3 v0 v1 hS => ?_)
      rw [e8] at v1
      repeat' (first | refine pN_v (hk := ?_) | fail)
      refine hQ z3 _ _ (Z.Got.bit g1 ?_) ⟨by omega, by omega⟩ hS.to
      rw [if_neg (by decide)]
      refine Z.Got.bit g2 ?_
      rw [if_neg (by decide)]
      exact g3.map

theorem least_bd {s : Int} (h0 : 0 ≤ s) (h1 : s < 64) : 1 ≤ Z.least s ∧ Z.least s ≤ 4294967296 ∧ Z.bitsN s ≤ 30 := by
  have key : ∀ a : Fin 64, 1 ≤ Z.least (a.val : Int) ∧ Z.least (a.val : Int) ≤ 4294967296 ∧ Z.bitsN (a.val : Int) ≤ 30 := by decide +kernel
  have := key ⟨s.toNat, by omega⟩
  simp only [Int.toNat_of_nonneg h0] at this
  exact this
set_option maxHeartbeats 2000000 in
theorem rdistance_ok {n : Int} (hn : Z.isLen n) (hp : p.Ok) (hB : B.length ≤ 225000000000000)
    (hS : Sat E w (cel r ⟨233, rdCells dec dd z.isNone⟩ :: Rsd p B dd q z :: cel dec ⟨171, dcCells t wd f⟩ :: cel t ⟨141, tbCells p s q⟩ :: Win wd x :: M))
    (hQ : ∀ y v w, Z.Got (Z.distRd n) z y v → -9223372036854775808 ≤ v → v < 9223372036854775808 → Sat E w (cel r ⟨233, rdCells dec dd y.isNone⟩ :: Rsd p B dd q y :: cel dec ⟨171, dcCells t wd f⟩ :: cel t ⟨141, tbCells p s q⟩ :: Win wd x :: M) → Q (.int .i64 v) w) :
    Calls Tryz.prog 170 #[pz r, .int .i64 n] w (retP Q) := by
  refine lzdec_reader_distance.calls ?_
  unfold lzdec_reader_distance.F
  obtain ⟨n1, n2⟩ := hn
  have e6 : (2 : Int) ^ 6 = 64 := by decide
  have e4 : (2 : Int) ^ 4 = 16 := by decide
  have t15 : Z.tabLen p 15 = 256 := rfl
  have t16 : Z.tabLen p 16 = 128 := rfl
  have t17 : Z.tabLen p 17 = 16 := rfl
  have hmx : max 0 (min (n - 2) 3) = min (n - 2) 3 := by omega
  repeat' (first | refine pN_l hS (by first | rfl | assumption) ?_ | refine pN_v (hk := ?_) | fail)
  rw [hmx]
  refine pc_lzdec_reader_tree (rtree_ok (hS.fd2 (cel r) (Rsd p B dd q)) hp hB 15 (by decide) _ 6 ⟨by omega, by omega, by omega, by omega, by show (2 : Int) ^ 6 ≤ _; omega⟩ fun z1 v w g1 s0 s1 hS => ?_)
  rw [e6] at s1
  have hlb := least_bd s0 s1
  have hb0 := Z.bits_0 s0
  repeat' (first | refine pc_state_Range (Range_in _ s0 (by omega) ?_) | (refine pN_eql_s ?_ ?_ <;> intro hc <;> try (exfalso; first | omega | exact hc rfl | exact hc (by assumption) | exact absurd hc (by assumption))) | refine pIf_t ?_ | refine pIf_f ?_ | refine pN_v (hk := ?_) | fail)
  · refine hQ z1 _ _ (Z.Got.bind g1 ?_) (by omega) (by omega) hS.to
    rw [if_pos (by omega)]
    exact Z.Got.ret _ _
  · by_cases h14 : v < 14
    · have e14 : decide (14 ≤ v) = false := decide_eq_false (by omega)
      have hr := Z.rest_law v (by omega) (by omega)
      have hrb : (2 : Int) ^ Z.bitsN v ≤ 2 ^ 5 := two_le' hr.2.2.1
      have e5 : (2 : Int) ^ 5 = 32 := by decide
      have hrp : (0 : Int) < 2 ^ Z.bitsN v := Int.pow_pos (by omega)
      repeat' (first | (refine pc_model_Late (Late_ok _ ?_); rw [e14]) | refine pc_model_RestAt (RestAt_ok _ s0 (by omega) ?_) | refine pIf_t ?_ | refine pL_l hS (by first | rfl | assumption) ?_ | (refine pDr_go hS ?_; clear hS; intro w hS) | refine ⟨⟨(by first | exact run_l hS (by first | rfl | assumption) | exact run_st hS (by first | rfl | omega) | exact run_ld1 ha hS | exact fun _ => run_l hS (by rfl) | exact fun _ => run_st hS (by first | rfl | omega) | exact fun _ => run_ld1 ha hS | exact fun h => Bool.noConfusion h), (by first | exact run_l hS (by first | rfl | assumption) | exact run_st hS (by first | rfl | omega) | exact run_ld1 ha hS | exact fun _ => run_l hS (by rfl) | exact fun _ => run_st hS (by first | rfl | omega) | exact fun _ => run_ld1 ha hS | exact fun h => Bool.noConfusion h), (by first | exact run_l hS (by first | rfl | assumption) | exact run_st hS (by first | rfl | omega) | exact run_ld1 ha hS | exact fun _ => run_l hS (by rfl) | exact fun _ => run_st hS (by first | rfl | omega) | exact fun _ => run_ld1 ha hS | exact fun h => Bool.noConfusion h), trivial⟩, ?_⟩ | refine pN_v (hk := ?_) | refine pA_v (hk := ?_) | fail)
      refine pc_lzdec_reader_back (rback_ok (hS.fd2 (cel r) (Rsd p B dd q)) hp hB 16 (by decide) _ (Z.bitsN v) ⟨by omega, by omega, by omega, by omega, by rw [Int.toNat_natCast]; omega⟩ fun z2 u w g2 u0 u1 hS => ?_)
      repeat' (first | refine ⟨trivial, ?_⟩ | refine pA_v (hk := ?_) | fail)
      refine hQ z2 _ _ (Z.Got.bind g1 ?_) (by omega) (by omega) hS.to
      rw [if_neg (by omega), if_pos h14]
      exact g2.map
    · have e14 : decide (14 ≤ v) = true := decide_eq_true (by omega)
      have hlate := Z.late_bits (s := v) (by omega)
      have hbm : (Z.bitsN v : Int) - 4 = ((Z.bitsN v - 4 : Nat) : Int) := by omega
      repeat' (first | (refine pc_model_Late (Late_ok _ ?_); rw [e14]) | refine pIf_f ?_ | refine pN_v (hk := ?_) | fail)
      rw [hbm]
      refine pc_lzdec_reader_direct (rdirect_ok (hS.fd2 (cel r) (Rsd p B dd q)) hB (Z.bitsN v - 4) (by omega) fun z2 u w g2 u0 u1 hS => ?_)
      have hub : (2 : Int) ^ (Z.bitsN v - 4) ≤ 2 ^ 26 := two_le' (by omega)
      have e26 : (2 : Int) ^ 26 = 67108864 := by decide
      repeat' (first | refine pN_l hS (by first | rfl | assumption) ?_ | refine pN_v (hk := ?_) | fail)
      refine pc_lzdec_reader_back (rback_ok (hS.fd2 (cel r) (Rsd p B dd q)) hp hB 17 (by decide) 0 4 ⟨by omega, by omega, by omega, by omega, by show (2 : Int) ^ 4 ≤ _; omega⟩ fun z3 a w g3 a0 a1 hS => ?_)
      rw [e4] at a1
      repeat' (first | refine pN_v (hk := ?_) | fail)
      refine hQ z3 _ _ (Z.Got.bind g1 ?_) (by omega) (by omega) hS.to
      rw [if_neg (by omega), if_neg h14]
      exact Z.Got.bind g2 g3.map

set_option maxHeartbeats 2000000 in
theorem rliteral_ok (hp : p.Ok) (hs : s.Right) (hB : B.length ≤ 225000000000000) (hx : x.all.length ≤ 4611686018427387904)
    (hS : Sat E w (cel r ⟨233, rdCells dec dd z.isNone⟩ :: Rsd p B dd q z :: cel dec ⟨171, dcCells t wd f⟩ :: cel t ⟨141, tbCells p s q⟩ :: Win wd x :: M))
    (hQ : ∀ y v w, Z.Got (Z.litRd p s x) z y v → 0 ≤ v → v < 256 → Sat E w (cel r ⟨233, rdCells dec dd y.isNone⟩ :: Rsd p B dd q y :: cel dec ⟨171, dcCells t wd f⟩ :: cel t ⟨141, tbCells p s q⟩ :: Win wd x :: M) → Q (.int .i64 v) w) :
    Calls Tryz.prog 168 #[pz r] w (retP Q) := by
  refine lzdec_reader_literal.calls ?_
  unfold lzdec_reader_literal.F
  have last : ∀ {w : World} {M : List HA} {Q : Value → World → Prop} (d : Int), Sat E w (Win wd x :: M) → (∀ (e : Int) w, Sat E w (Win wd x :: M) → Q (.tuple #[bv (Z.lastOr x d), .int .i64 e]) w) → Calls Tryz.prog 101 #[pz wd, .int .i64 d] w (retP Q) := by
    intro w M Q d hS hQ
    unfold Z.lastOr at hQ
    by_cases h : x.has d
    · rw [if_pos h] at hQ
      exact Last_in hS d h fun w hS => hQ 0 w hS
    · rw [if_neg h] at hQ
      exact Last_no hS d h fun w hS => hQ 7 w hS
  have hb1 := (Z.lastOr x 1).toNat_lt
  have hc := context_bd hp x.all.length (Z.lastOr x 1).toNat (by omega) (by omega)
  have tl := Z.tabLen_bd hp 6
  have e8 : (2 : Int) ^ 8 = 256 := by decide
  unfold Z.litRd at hQ
  generalize hf : Z.context p x.all.length (Z.lastOr x 1).toNat = fr at *
  by_cases h7 : s.num < 7
  · rw [if_pos h7] at hQ
    have e7 : decide (s.num < 7) = true := decide_eq_true h7
    repeat' (first | (refine pc_window_Window_Pos (Pos_ok (hS.fd (Win wd)) ?_); clear hS; intro w hS) | (refine pc_window_Window_Last (last _ (hS.fd (Win wd)) ?_); clear hS; intro er w hS) | (refine pc_model_Tables_Context (Context_ok (hS.fd (cel t)) hp _ (by omega) (by omega) _ ?_); rw [hf]; clear hS; intro w hS) | (refine pN_la_at (n := 5) hS s.cells rfl rfl ?_) | (refine pc_state_State_Literal (SLiteral_ok hS hs ?_); rw [e7]; clear hS; intro w hS) | refine pIf_t ?_ | refine pN_l hS (by first | rfl | assumption) ?_ | refine pL_l hS (by first | rfl | assumption) ?_ | (refine pDr_go hS ?_; clear hS; intro w hS) | refine ⟨trivial, ?_⟩ | refine ⟨⟨(by first | exact run_l hS (by first | rfl | assumption) | exact run_st hS (by first | rfl | omega) | exact run_ld1 ha hS | exact fun _ => run_l hS (by rfl) | exact fun _ => run_st hS (by first | rfl | omega) | exact fun _ => run_ld1 ha hS | exact fun h => Bool.noConfusion h), (by first | exact run_l hS (by first | rfl | assumption) | exact run_st hS (by first | rfl | omega) | exact run_ld1 ha hS | exact fun _ => run_l hS (by rfl) | exact fun _ => run_st hS (by first | rfl | omega) | exact fun _ => run_ld1 ha hS | exact fun h => Bool.noConfusion h), trivial⟩, ?_⟩ | refine pN_v (hk := ?_) | refine pA_v (hk := ?_) | fail)
    refine pc_lzdec_reader_tree (rtree_ok (hS.fd2 (cel r) (Rsd p B dd q)) hp hB 6 (by decide) _ 8 ⟨by omega, by omega, by omega, by omega, by show (2 : Int) ^ 8 ≤ _; omega⟩ fun z2 v2 w g2 v0 v1 hS => ?_)
    rw [e8] at v1
    skip
    exact hQ z2 _ _ g2 v0 v1 hS.to
  · rw [if_neg h7] at hQ
    have e7 : decide (s.num < 7) = false := decide_eq_false h7
    repeat' (first | (refine pc_window_Window_Pos (Pos_ok (hS.fd (Win wd)) ?_); clear hS; intro w hS) | (refine pc_window_Window_Last (last _ (hS.fd (Win wd)) ?_); clear hS; intro er w hS) | (refine pc_model_Tables_Context (Context_ok (hS.fd (cel t)) hp _ (by omega) (by omega) _ ?_); rw [hf]; clear hS; intro w hS) | (refine pN_la_at (n := 5) hS s.cells rfl rfl ?_) | (refine pc_state_State_Literal (SLiteral_ok hS hs ?_); rw [e7]; clear hS; intro w hS) | refine pIf_f ?_ | refine pN_l hS (by first | rfl | assumption) ?_ | refine pL_l hS (by first | rfl | assumption) ?_ | (refine pDr_go hS ?_; clear hS; intro w hS) | refine ⟨trivial, ?_⟩ | refine ⟨⟨(by first | exact run_l hS (by first | rfl | assumption) | exact run_st hS (by first | rfl | omega) | exact run_ld1 ha hS | exact fun _ => run_l hS (by rfl) | exact fun _ => run_st hS (by first | rfl | omega) | exact fun _ => run_ld1 ha hS | exact fun h => Bool.noConfusion h), (by first | exact run_l hS (by first | rfl | assumption) | exact run_st hS (by first | rfl | omega) | exact run_ld1 ha hS | exact fun _ => run_l hS (by rfl) | exact fun _ => run_st hS (by first | rfl | omega) | exact fun _ => run_ld1 ha hS | exact fun h => Bool.noConfusion h), trivial⟩, ?_⟩ | refine pN_v (hk := ?_) | refine pA_v (hk := ?_) | fail)
    generalize hu : ((Z.lastOr x s.r0).toNat : Int) = u at *
    have hu0 : 0 ≤ u ∧ u < 256 := by have := (Z.lastOr x s.r0).toNat_lt; omega
    refine ⟨fun m sm i w => ∃ (k : Nat) (m' : Int) (same : Bool) (z1 : Option Z.RS), sm = .bool same ∧ i = .int .i64 ((k : Int) - 1) ∧ m = .int .i64 m' ∧ k ≤ 8 ∧ 1 ≤ m' ∧ 2 ^ (8 - k) ≤ m' ∧ m' < 2 ^ (9 - k) ∧ (∀ y v, Z.Got (Z.litGoRd fr u k m' same) z1 y v → Z.Got (Z.litGoRd fr u 8 1 true) z y v) ∧
      Sat E w (cel r ⟨233, rdCells dec dd z1.isNone⟩ :: Rsd p B dd q z1 :: cel dec ⟨171, dcCells t wd f⟩ :: cel t ⟨141, tbCells p s q⟩ :: Win wd x :: M), fun _ _ i _ => (RowKit.intOf i + 1).toNat, ⟨8, 1, true, z, rfl, rfl, rfl, by omega, by omega, by decide, by decide, fun _ _ h => h, hS.to⟩, ?_⟩
    clear hS
    rintro _ _ _ _ w ⟨k, m', same, z1, rfl, rfl, rfl, hk8, hm1, hm0, hm2, hgo, hS⟩
    cases k with
    | zero =>
      have e9 : (2 : Int) ^ 9 = 512 := by decide
      rw [show 8 - 0 = 8 from rfl, e8] at hm0
      rw [show 9 - 0 = 9 from rfl, e9] at hm2
      repeat' (first | (refine pN_geq_s ?_ ?_ <;> intro hc <;> try (exfalso; omega)) | refine pIf_f ?_ | refine pN_v (hk := ?_) | fail)
      exact hQ z1 _ _ (hgo z1 _ (Z.Got.ret _ _)) (by omega) (by omega) hS.to
    | succ i =>
      have ei : ((i + 1 : Nat) : Int) - 1 = (i : Int) := by omega
      rw [ei]
      have hub : 0 ≤ u / 2 ^ i % 2 ∧ u / 2 ^ i % 2 ≤ 1 := by omega
      have e9 : (2 : Int) ^ (9 - i) = 2 ^ (9 - (i + 1)) * 2 := by rw [show 9 - i = (9 - (i + 1)) + 1 from by omega, Int.pow_succ]
      have e10 : (2 : Int) ^ (8 - i) = 2 ^ (8 - (i + 1)) * 2 := by rw [show 8 - i = (8 - (i + 1)) + 1 from by omega, Int.pow_succ]
      have hm8 : m' < 256 := by
        have : (2 : Int) ^ (9 - (i + 1)) ≤ 2 ^ 8 := two_le' (by omega)
        omega
      have h1le : i ≤ 64 := by omega
      repeat' (first | (refine pN_geq_s ?_ ?_ <;> intro hc <;> try (exfalso; omega)) | refine pIf_t ?_ | fail)
      refine ⟨fun m sm w => ∃ (b : Int) (z2 : Option Z.RS), (b = 0 ∨ b = 1) ∧ m = .int .i64 (2 * m' + b) ∧ sm = .bool (same && decide (b = u / 2 ^ i % 2)) ∧ (∀ y v, Z.Got (Z.litGoRd fr u i (2 * m' + b) (same && decide (b = u / 2 ^ i % 2))) z2 y v → Z.Got (Z.litGoRd fr u 8 1 true) z y v) ∧ Sat E w (cel r ⟨233, rdCells dec dd z2.isNone⟩ :: Rsd p B dd q z2 :: cel dec ⟨171, dcCells t wd f⟩ :: cel t ⟨141, tbCells p s q⟩ :: Win wd x :: M), ?_, ?_⟩
      · repeat' (first | refine pA_shr_k i rfl h1le ?_ | refine pL_ofb ?_ | (refine pDr_go hS ?_; clear hS; intro w hS) | refine pA_v (hk := ?_) | fail)
        simp only [hu]
        generalize hub2 : u / 2 ^ i % 2 = ub at *
        refine ⟨fun v w => v = .int .i64 (fr + m' + if same = true then 256 * (1 + ub) else 0) ∧ Sat E w (cel r ⟨233, rdCells dec dd z1.isNone⟩ :: Rsd p B dd q z1 :: cel dec ⟨171, dcCells t wd f⟩ :: cel t ⟨141, tbCells p s q⟩ :: Win wd x :: M), ?_, ?_⟩
        · cases same
          · repeat' (first | refine pIf_f ?_ | fail)
            exact ⟨by simp, hS.to⟩
          · repeat' (first | refine pIf_t ?_ | refine pN_v (hk := ?_) | fail)
            exact ⟨by simp, hS.to⟩
        clear hS
        rintro _ _ w ⟨rfl, hS⟩
        repeat' (first | refine pN_l hS (by first | rfl | assumption) ?_ | refine pN_v (hk := ?_) | fail)
        refine pc_lzdec_reader_bit (rbit_ok (hS.fd2 (cel r) (Rsd p B dd q)) hB 6 (by decide) _ (by split <;> omega) (by split <;> omega) fun z2 b w g hb hS => ?_)
        have hgo2 : ∀ y v, Z.Got (Z.litGoRd fr u i (2 * m' + b) (same && decide (b = ub))) z2 y v → Z.Got (Z.litGoRd fr u 8 1 true) z y v := fun y v h => hgo y v (by rw [Z.litGoRd, hub2]; exact Z.Got.bit g h)
        cases same
        · rcases hb with rfl | rfl
          · repeat' (first | refine pGd_no (by rfl) ?_ | refine pN_v (hk := ?_) | fail)
            exact ⟨_, z2, .inl rfl, rfl, rfl, hgo2, hS.to⟩
          · repeat' (first | refine pGd_no (by rfl) ?_ | refine pN_v (hk := ?_) | fail)
            exact ⟨_, z2, .inr rfl, rfl, rfl, hgo2, hS.to⟩
        · rcases hb with rfl | rfl
          · repeat' (first | (refine pN_eql_s ?_ ?_ <;> intro hc <;> try (exfalso; first | omega | exact hc rfl | exact hc (by assumption) | exact absurd hc (by assumption))) | refine pGd_go (by rfl) ?_ | refine pN_v (hk := ?_) | fail)
            · exact ⟨_, z2, .inl rfl, rfl, by rw [decide_eq_true hc]; rfl, hgo2, hS.to⟩
            · exact ⟨_, z2, .inl rfl, rfl, by rw [decide_eq_false hc]; rfl, hgo2, hS.to⟩
          · repeat' (first | (refine pN_eql_s ?_ ?_ <;> intro hc <;> try (exfalso; first | omega | exact hc rfl | exact hc (by assumption) | exact absurd hc (by assumption))) | refine pGd_go (by rfl) ?_ | refine pN_v (hk := ?_) | fail)
            · exact ⟨_, z2, .inr rfl, rfl, by rw [decide_eq_true hc]; rfl, hgo2, hS.to⟩
            · exact ⟨_, z2, .inr rfl, rfl, by rw [decide_eq_false hc]; rfl, hgo2, hS.to⟩
      · clear hS
        rintro _ _ _ w ⟨b, z2, hb, rfl, rfl, hgo2, hS⟩
        repeat' (first | refine pN_v (hk := ?_) | fail)
        exact ⟨⟨i, _, _, z2, rfl, rfl, rfl, by omega, by omega, by omega, by omega, hgo2, hS⟩, by simp [RowKit.intOf] <;> omega⟩
end

end Go.Proofs.YtbgnnjfpiblkmaaGreatDoor

namespace Go.Proofs.YtbgnnjfpiblkmaaGreatDoor
open Go
namespace Z
theorem Got.bits_ret {t : Nat} {a : Int} {z z' : Option RS} {n : Nat} {bs : List Int} (h : ∀ y v, Got (bitsRd t a 0 bs) z' y v → Got (bitsRd t a n []) z y v) (back : Bool) : Got (treeRd back t a n) z z' (R.val back bs) :=
  Got.map (h z' bs (Got.ret z' bs))
theorem node_horner : ∀ (l : List Int), R.nodeL l = 2 ^ l.length + R.horner l := by
  intro l
  induction l using R.snoc_ind with
  | h0 => rfl
  | h1 l b ih =>
    rw [R.nodeL_snoc, R.horner_snoc, ih, List.length_append, List.length_cons, List.length_nil, Int.pow_succ]
    omega
theorem backv_snoc (l : List Int) (b : Int) : R.backv (l ++ [b]) = R.backv l + b * 2 ^ l.length := by
  induction l with
  | nil => simp [R.backv]
  | cons a l ih =>
    show a + 2 * R.backv (l ++ [b]) = a + 2 * R.backv l + b * 2 ^ (l.length + 1)
    rw [ih, Int.pow_succ]
    have : 2 * (b * 2 ^ l.length) = b * (2 ^ l.length * 2) := by rw [Int.mul_comm 2, Int.mul_assoc]
    omega
end Z
attribute [local irreducible] oMv oV oU oCall oCallV oBi oBin oUn oLoad oStore oNil oFld oField oIdx oIndex oPick oAlloc oBox oBuild oBs oConv oMk oSl oExt oFn oIface oMap oLook oMapUp oRange oNext oEntry oInv oAssert oPanic oRes pN pA pL pDr pIf gA pGd Calls

section
variable {E w W : World} {M : List HA} {Q : Value → World → Prop} {p : Z.Pr} {st : Z.St} {B : List UInt8} {r dd bm na : Nat} {sa s0 : Sl} {z : Option Z.RS} {nme : List UInt8} {l : List Int} {t : Nat} {a : Int}
end
end Go.Proofs.YtbgnnjfpiblkmaaGreatDoor

namespace Go.Proofs.YtbgnnjfpiblkmaaGreatDoor
open Go
theorem dirQ_e (st : D.S) (n : Int) : 0 ≤ (st.dirQ n).2.2 ∧ (st.dirQ n).2.2 ≤ 7 := by
  have key : ∀ (n : Nat) {d : D.S} {v e : Int}, d.direct v n = .no e → 0 ≤ e ∧ e ≤ 7 := by
    intro n
    induction n with
    | zero => intro d v e h; cases h
    | succ n ih =>
      intro d v e h
      simp only [D.S.direct] at h
      split at h
      · cases h; decide
      · split at h
        · cases h; decide
        · exact ih h
  unfold D.S.dirQ
  split
  · cases h : st.direct 0 n.toNat with
    | ok t v => exact ⟨Int.le_refl _, by show (0 : Int) ≤ 7; omega⟩
    | no e => exact key _ h
  · exact ⟨by show (0 : Int) ≤ 7; omega, by show (7 : Int) ≤ 7; omega⟩
attribute [local irreducible] oMv oV oU oCall oCallV oBi oBin oUn oLoad oStore oNil oFld oField oIdx oIndex oPick oAlloc oBox oBuild oBs oConv oMk oSl oExt oFn oIface oMap oLook oMapUp oRange oNext oEntry oInv oAssert oPanic oRes pN pA pL pDr pIf gA pGd Calls

section
variable {E w W : World} {M : List HA} {Q : Value → World → Prop} {p : Z.Pr} {st : Z.St} {x : Z.W} {B : List UInt8} {r dd bm na : Nat} {sa s0 : Sl} {z : Option Z.RS} {nme : List UInt8} {l : List Int} {t : Nat} {a : Int} {f : Bool}
end
end Go.Proofs.YtbgnnjfpiblkmaaGreatDoor

namespace Go.Proofs.YtbgnnjfpiblkmaaGreatDoor
open Go
abbrev d15C (c dd : Nat) (bad spent : Bool) : Ob := ⟨182, [pz c, pz dd, .bool bad, .bool spent]⟩
def D15 (p : Z.Pr) (B : List UInt8) (dd bm : Nat) (z : Option Z.RS) : HA := fun h => ∃ k : Z.RS × (Key → List Int), (k.1.Ok p ∧ k.1.d.b = B ∧ (∀ s, z = some s → k.1 = s) ∧ Z.Rel Z.pre14 768 p k.2 k.1.T) ∧ Sats [RDec dd k.1.d, RSets bm k.2] h
section
variable {E w : World} {M : List HA} {p : Z.Pr} {B : List UInt8} {dd bm : Nat} {z : Option Z.RS} {y : Z.RS} {N : Key → List Int}
theorem D15.opn (hS : Sat E w (D15 p B dd bm z :: M)) : ∃ (y : Z.RS) (N : Key → List Int), y.Ok p ∧ y.d.b = B ∧ (∀ s, z = some s → y = s) ∧ Z.Rel Z.pre14 768 p N y.T ∧ Sat E w (RDec dd y.d :: RSets bm N :: M) := by
  obtain ⟨k, hS⟩ := hS.ex
  obtain ⟨h1, ⟨hA, _⟩, _⟩ := hS.head
  exact ⟨k.1, k.2, hA.1, hA.2.1, hA.2.2.1, hA.2.2.2, hS.open_ (M := [_, _]) fun _ h => h.2⟩
theorem D15.shut (hS : Sat E w (RDec dd y.d :: RSets bm N :: M)) (h1 : y.Ok p) (h2 : y.d.b = B) (h3 : ∀ s, z = some s → y = s) (h4 : Z.Rel Z.pre14 768 p N y.T) : Sat E w (D15 p B dd bm z :: M) :=
  Sat.shut (M := [_, _]) hS fun _ h => ⟨(y, N), ⟨h1, h2, h3, h4⟩, h⟩
end
attribute [local irreducible] oMv oV oU oCall oCallV oBi oBin oUn oLoad oStore oNil oFld oField oIdx oIndex oPick oAlloc oBox oBuild oBs oConv oMk oSl oExt oFn oIface oMap oLook oMapUp oRange oNext oEntry oInv oAssert oPanic oRes pN pA pL pDr pIf gA pGd Calls

section
variable {E w : World} {M : List HA} {Q : Value → World → Prop} {d b : Nat} {st : D.S} {l : List Int}
theorem R8Bit_q (hS : Sat E w (RDec d st :: RSet b l :: M)) (ho : D.Ok st) (hf : B.Fine l) (hb : st.b.length ≤ 140737488355328) (i : Int)
    (hQ : ∀ w, Sat E w (RDec d (st.bitQ l i).1 :: RSet b (st.bitQ l i).2.1 :: M) → Q (.tuple #[.int .i64 (st.bitQ l i).2.2.1, .int .i64 (st.bitQ l i).2.2.2]) w) :
    Calls Tryz.prog 204 #[pz d, pz b, .int .i64 i] w (retP Q) := by
  unfold D.S.bitQ at hQ
  refine R8Bit_ok hS ho hf hb i (fun h w hS => ?_) (fun t v w h0 h1 e hS => ?_) fun e w h0 h1 he hS => ?_
  · simp only [if_neg h] at hQ; exact hQ w hS
  · simp only [if_pos (show 0 ≤ i ∧ i < l.length from ⟨h0, h1⟩), e] at hQ; exact hQ w hS
  · simp only [if_pos (show 0 ≤ i ∧ i < l.length from ⟨h0, h1⟩), he] at hQ; exact hQ w hS
theorem R8Direct_q (hS : Sat E w (RDec d st :: M)) (ho : D.Ok st) (hb : st.b.length ≤ 140737488355328) (n : Int)
    (hQ : ∀ w, Sat E w (RDec d (st.dirQ n).1 :: M) → Q (.tuple #[.int .u32 (st.dirQ n).2.1, .int .i64 (st.dirQ n).2.2]) w) :
    Calls Tryz.prog 207 #[pz d, .int .i64 n] w (retP Q) := by
  unfold D.S.dirQ at hQ
  refine R8Direct_ok hS ho hb n (fun h w hS => ?_) (fun t v w h0 h1 e hS => ?_) fun e w h0 h1 he hS => ?_
  · simp only [if_neg h] at hQ; exact hQ w hS
  · simp only [if_pos (show 0 ≤ n ∧ n ≤ 32 from ⟨h0, h1⟩), e] at hQ; exact hQ w hS
  · simp only [if_pos (show 0 ≤ n ∧ n ≤ 32 from ⟨h0, h1⟩), he] at hQ; exact hQ w hS
end
section
variable {E w W : World} {M : List HA} {Q : Value → World → Prop} {p : Z.Pr} {B : List UInt8} {r c dd bm : Nat} {z : Option Z.RS} {nme : List UInt8} {t : Nat} {a : Int} {f : Bool} {cs : List Value}
theorem d15set_ok (nme : List UInt8) (v : Int) (h : 0 ≤ v ∧ v < 100) (hb : nme.length ≤ 1000) (hQ : Q (.string ⟨(Z.nm nme [v]).toArray⟩) w) : Calls Tryz.prog 192 #[.string ⟨nme.toArray⟩, .int .i64 v] w (retP Q) := by
  refine pithref15_set.calls ?_
  unfold pithref15_set.F
  obtain ⟨i, rfl⟩ : ∃ i : Nat, v = i := ⟨v.toNat, by omega⟩
  have hd := Z.dec_len ⟨i, by omega⟩
  simp only at hd
  repeat' (first | refine pN_sadd (by simp only [List.length_append, List.length_cons, List.length_nil]; omega) ?_ | (refine pc_strconv_Itoa (Itoa_ok i (by omega) ?_)) | fail)
  exact hQ
theorem d15set2_ok (nme : List UInt8) (u v : Int) (hu : 0 ≤ u ∧ u < 100) (h : 0 ≤ v ∧ v < 100) (hb : nme.length ≤ 900) (hQ : Q (.string ⟨(Z.nm nme [u, v]).toArray⟩) w) : Calls Tryz.prog 192 #[.string ⟨(Z.nm nme [u]).toArray⟩, .int .i64 v] w (retP Q) :=
  d15set_ok (Z.nm nme [u]) v h (by have := Z.nm_len [u] nme fun i hi => (by rw [List.mem_singleton] at hi; omega); simp only [List.length_cons, List.length_nil] at this; omega) hQ
set_option maxRecDepth 8000 in
set_option maxHeartbeats 1000000 in
theorem d15bit_ok (hp : p.Ok) (hB : B.length ≤ 140737488355328) (hv : cs[9]? = some (.map (some bm))) (hS : Sat E w (cel r (d15C c dd z.isNone f) :: cel c ⟨73, cs⟩ :: D15 p B dd bm z :: M)) {j i : Int} (hA : Z.At Z.pre14 p nme j t i)
    (hQ : ∀ y v w, Z.Got (.bit t i .ret) z y v → (v = 0 ∨ v = 1) → Sat E w (cel r (d15C c dd y.isNone f) :: cel c ⟨73, cs⟩ :: D15 p B dd bm y :: M) → Q (.int .i64 v) w) :
    Calls Tryz.prog 191 #[pz r, .string ⟨nme.toArray⟩, .int .i64 j] w (retP Q) := by
  refine pithref15_Decoder_bit.calls ?_
  unfold pithref15_Decoder_bit.F
  cases z with
  | none =>
    simp only [Option.isNone_none] at hS
    repeat' (first | refine pIf_t ?_ | refine pN_l hS (by first | rfl | assumption) ?_ | refine pN_v (hk := ?_) | fail)
    exact hQ none 0 _ rfl (.inl rfl) hS
  | some s =>
    simp only [Option.isNone_some] at hS
    obtain ⟨ht, i0, i1, hs, hj⟩ := hA
    have hun := Z.un_bd hp ht (i := i.toNat) (by omega)
    have hkey : (Z.keyU Z.pre14 (Z.un t i.toNat)).1 = nme := by rw [Z.pre14_ok.key hun.1, hs]
    have hO := D15.opn (hS.fd (D15 p B dd bm))
    clear hS
    obtain ⟨y, N, ho, hyb, hys, hrel, hS⟩ := hO
    have hsy := hys s rfl
    obtain ⟨y', ho', hb', hd', hr', h01, hask⟩ := Z.ask_rel Z.pre14_ok (Nat.le_refl _) hp ho hrel ht i0 i1 rfl
    rw [hj] at hd' hr' h01 hask
    have hfine := hrel.fine (Z.keyU Z.pre14 (Z.un t i.toNat))
    generalize hkk : Z.keyU Z.pre14 (Z.un t i.toNat) = key at *
    repeat' (first | (refine pc_pithref14_Coder_Set (R14Set_at (n := key) hkey (hS.fd2 (cel c) (NSets RSet Z.fresh bm)) hv ?_); clear hS; intro b w hS) | refine And.intro ?_ ?_ | exact trivial | exact run_l hS rfl | (refine pc_pithref08_Decoder_Bit (R8Bit_q (hS.fd2 (RDec dd) (RSet b)) ho.d hfine (by rw [hyb]; exact hB) j ?_); clear hS; intro w hS) | refine pIf_f ?_ | refine pN_l hS (by first | rfl | assumption) ?_ | refine pL_l hS (by first | rfl | assumption) ?_ | (refine pDr_go hS ?_; clear hS; intro w hS) | refine pN_v (hk := ?_) | refine pA_v (hk := ?_) | fail)
    have hev := Z.bitQ_e y.d (N key) j
    have hlist := NHole.shut (hS.fd2 (RSet b) (NHole RSet Z.fresh bm N key))
    clear hS
    have hS := hlist
    generalize y.d.bitQ (N key) j = U at *
    have hS : Sat E w (RDec dd y'.d :: RSets bm (Z.updN N key U.2.1) :: cel r (d15C c dd false f) :: cel c ⟨73, cs⟩ :: M) := by rw [hd']; exact hS.to
    by_cases h0 : U.2.2.2 = 0
    · rw [if_pos h0] at hask
      refine ⟨fun w => Sat E w (RDec dd y'.d :: RSets bm (Z.updN N key U.2.1) :: cel r (d15C c dd false f) :: cel c ⟨73, cs⟩ :: M), ?_, ?_⟩
      · repeat' (first | (refine pN_neq_s ?_ ?_ <;> intro hc <;> try (exfalso; first | omega | exact hc rfl | exact hc (by assumption) | exact absurd hc (by assumption))) | refine pIf_f ?_ | fail)
        exact hS
      clear hS
      rintro _ w hS
      skip
      have hS := D15.shut (p := p) (B := B) (z := some y') (hS.fd2 (RDec dd) (NSets RSet Z.fresh bm)) ho' (hb'.trans hyb) (fun _ h => by cases h; rfl) hr'
      exact hQ (some y') _ _ (by show Z.Rd.run _ _ = _; rw [Z.Rd.run, ← hsy, hask]; rfl) h01 (hS.fd3 (cel r) (cel c) (D15 p B dd bm))
    · rw [if_neg h0] at hask
      refine ⟨fun w => Sat E w (RDec dd y'.d :: RSets bm (Z.updN N key U.2.1) :: cel r (d15C c dd true f) :: cel c ⟨73, cs⟩ :: M), ?_, ?_⟩
      · repeat' (first | (refine pN_neq_s ?_ ?_ <;> intro hc <;> try (exfalso; first | omega | exact hc rfl | exact hc (by assumption) | exact absurd hc (by assumption))) | refine pIf_t ?_ | (refine pN_s hS (by first | exact Nat.le_of_ble_eq_true rfl | assumption) (by rfl) ?_; clear hS; intro w hS; try simp only [List.set_cons_zero, List.set_cons_succ] at hS) | refine pN_v (hk := ?_) | fail)
        exact hS.to
      clear hS
      rintro _ w hS
      skip
      have hS := D15.shut (p := p) (B := B) (z := none) (hS.fd2 (RDec dd) (NSets RSet Z.fresh bm)) ho' (hb'.trans hyb) (fun _ h => by cases h) hr'
      exact hQ none _ _ (by show Z.Rd.run _ _ = _; rw [Z.Rd.run, ← hsy, hask]; rfl) h01 (hS.fd3 (cel r) (cel c) (D15 p B dd bm))
set_option maxRecDepth 8000 in
theorem d15tree_ok (n : Nat) (hn : n ≤ 16) (hp : p.Ok) (hB : B.length ≤ 140737488355328) (hv : cs[9]? = some (.map (some bm))) (hS : Sat E w (cel r (d15C c dd z.isNone f) :: cel c ⟨73, cs⟩ :: D15 p B dd bm z :: M)) (hA : ∀ v : Int, 1 ≤ v → v < 2 ^ n → Z.At Z.pre14 p nme v t (a + v))
    (hQ : ∀ y v w, Z.Got (Z.treeRd false t a n) z y v → 0 ≤ v → v < 2 ^ n → Sat E w (cel r (d15C c dd y.isNone f) :: cel c ⟨73, cs⟩ :: D15 p B dd bm y :: M) → Q (.int .i64 v) w) :
    Calls Tryz.prog 205 #[pz r, .string ⟨nme.toArray⟩, .int .i64 n] w (retP Q) := by
  refine pithref15_Decoder_tree.calls ?_
  unfold pithref15_Decoder_tree.F
  refine ⟨fun m k w => ∃ (bs : List Int) (z' : Option Z.RS), m = .int .i64 (R.nodeL bs) ∧ k = .int .i64 bs.length ∧ bs.length ≤ n ∧ R.Bits bs ∧ (∀ y v, Z.Got (Z.bitsRd t a (n - bs.length) bs) z' y v → Z.Got (Z.bitsRd t a n []) z y v) ∧ Sat E w (cel r (d15C c dd z'.isNone f) :: cel c ⟨73, cs⟩ :: D15 p B dd bm z' :: M), fun _ k _ => (n - RowKit.intOf k).toNat, ⟨[], z, rfl, rfl, by simp, fun _ h => (by cases h), fun _ _ h => h, hS⟩, ?_⟩
  clear hS
  rintro _ _ _ w ⟨bs, z', rfl, rfl, hk, hbs, hgo, hS⟩
  have hnd := R.nodeL_bd hbs
  have h17 : (2 : Int) ^ (bs.length + 1) ≤ 2 ^ 17 := two_le' (by omega)
  have e17 : (2 : Int) ^ 17 = 131072 := by decide
  have hp0 : (0 : Int) < 2 ^ bs.length := Int.pow_pos (by omega)
  by_cases hlt : bs.length < n
  · have hpn : (2 : Int) ^ (bs.length + 1) ≤ 2 ^ n := two_le' (by omega)
    repeat' (first | (refine pN_lss_s ?_ ?_ <;> intro hc <;> try (exfalso; omega)) | refine pIf_t ?_ | refine pN_v (hk := ?_) | fail)
    refine pc_pithref15_Decoder_bit (d15bit_ok hp hB hv hS (hA (R.nodeL bs) (by omega) (by omega)) fun y v w g hv hS => ?_)
    repeat' (first | refine pN_v (hk := ?_) | fail)
    refine ⟨⟨bs ++ [v], y, by rw [R.nodeL_snoc], by simp, by simp; omega, hbs.snoc hv, fun x u hx => hgo x u ?_, hS⟩, by simp only [RowKit.intOf]; omega⟩
    rw [show n - bs.length = (n - (bs ++ [v]).length) + 1 from by simp; omega]
    exact Z.Got.bit g hx
  · have hnb : bs.length = n := by omega
    rw [hnb, Nat.sub_self] at hgo
    have hv := Z.val_bd false hbs
    have hnh := Z.node_horner bs
    have hg := Z.Got.bits_ret (n := n) hgo false
    rw [hnb] at hv hnh
    have hn16 : (2 : Int) ^ n ≤ 2 ^ 16 := two_le' hn
    have e16 : (2 : Int) ^ 16 = 65536 := by decide
    have hp0 : (0 : Int) < 2 ^ n := Int.pow_pos (by omega)
    have e : R.nodeL bs - 2 ^ n = R.val false bs := by rw [hnh]; show _ = R.horner bs; omega
    repeat' (first | refine pN_shl_k n rfl (by show _ ≤ 64; omega) ?_ | (refine pN_lss_s ?_ ?_ <;> intro hc <;> try (exfalso; omega)) | refine pIf_f ?_ | refine pN_v (hk := ?_) | fail)
    rw [Int.one_mul, e]
    exact hQ _ _ _ hg hv.1 hv.2 hS
set_option maxRecDepth 8000 in
theorem d15back_ok (n : Nat) (hn : n ≤ 16) (hp : p.Ok) (hB : B.length ≤ 140737488355328) (hv : cs[9]? = some (.map (some bm))) (hS : Sat E w (cel r (d15C c dd z.isNone f) :: cel c ⟨73, cs⟩ :: D15 p B dd bm z :: M)) (hA : ∀ v : Int, 1 ≤ v → v < 2 ^ n → Z.At Z.pre14 p nme v t (a + v))
    (hQ : ∀ y v w, Z.Got (Z.treeRd true t a n) z y v → 0 ≤ v → v < 2 ^ n → Sat E w (cel r (d15C c dd y.isNone f) :: cel c ⟨73, cs⟩ :: D15 p B dd bm y :: M) → Q (.int .i64 v) w) :
    Calls Tryz.prog 206 #[pz r, .string ⟨nme.toArray⟩, .int .i64 n] w (retP Q) := by
  refine pithref15_Decoder_back.calls ?_
  unfold pithref15_Decoder_back.F
  refine ⟨fun m u k w => ∃ (bs : List Int) (z' : Option Z.RS), m = .int .i64 (R.nodeL bs) ∧ u = .int .i64 (R.backv bs) ∧ k = .int .i64 bs.length ∧ bs.length ≤ n ∧ R.Bits bs ∧ (∀ y v, Z.Got (Z.bitsRd t a (n - bs.length) bs) z' y v → Z.Got (Z.bitsRd t a n []) z y v) ∧ Sat E w (cel r (d15C c dd z'.isNone f) :: cel c ⟨73, cs⟩ :: D15 p B dd bm z' :: M), fun _ _ k _ => (n - RowKit.intOf k).toNat, ⟨[], z, rfl, rfl, rfl, by simp, fun _ h => (by cases h), fun _ _ h => h, hS⟩, ?_⟩
  clear hS
  rintro _ _ _ _ w ⟨bs, z', rfl, rfl, rfl, hk, hbs, hgo, hS⟩
  have hnd := R.nodeL_bd hbs
  have hvb := R.backv_bd hbs
  have h17 : (2 : Int) ^ (bs.length + 1) ≤ 2 ^ 17 := two_le' (by omega)
  have e17 : (2 : Int) ^ 17 = 131072 := by decide
  have hp0 : (0 : Int) < 2 ^ bs.length := Int.pow_pos (by omega)
  have h16 : (2 : Int) ^ bs.length ≤ 2 ^ 16 := two_le' (by omega)
  have e16 : (2 : Int) ^ 16 = 65536 := by decide
  by_cases hlt : bs.length < n
  · have hpn : (2 : Int) ^ (bs.length + 1) ≤ 2 ^ n := two_le' (by omega)
    repeat' (first | (refine pN_lss_s ?_ ?_ <;> intro hc <;> try (exfalso; omega)) | refine pIf_t ?_ | fail)
    refine pc_pithref15_Decoder_bit (d15bit_ok hp hB hv hS (hA (R.nodeL bs) (by omega) (by omega)) fun y v w g hv hS => ?_)
    have hs := Z.backv_snoc bs v
    rcases hv with rfl | rfl
    · rw [Int.zero_mul, Int.add_zero] at hs
      repeat' (first | refine pN_shl_k bs.length rfl (by show _ ≤ 64; omega) ?_ | refine pN_v (hk := ?_) | fail)
      refine ⟨⟨bs ++ [0], y, by rw [R.nodeL_snoc], ?_, by simp, by simp; omega, hbs.snoc (by omega), fun x u hx => hgo x u ?_, hS⟩, by simp only [RowKit.intOf]; omega⟩
      · rw [hs]; congr 1; omega
      · rw [show n - bs.length = (n - (bs ++ [0]).length) + 1 from by simp; omega]
        exact Z.Got.bit g hx
    · rw [Int.one_mul] at hs
      repeat' (first | refine pN_shl_k bs.length rfl (by show _ ≤ 64; omega) ?_ | refine pN_v (hk := ?_) | fail)
      refine ⟨⟨bs ++ [1], y, by rw [R.nodeL_snoc], ?_, by simp, by simp; omega, hbs.snoc (by omega), fun x u hx => hgo x u ?_, hS⟩, by simp only [RowKit.intOf]; omega⟩
      · rw [hs]; congr 1; omega
      · rw [show n - bs.length = (n - (bs ++ [1]).length) + 1 from by simp; omega]
        exact Z.Got.bit g hx
  · have hnb : bs.length = n := by omega
    rw [hnb, Nat.sub_self] at hgo
    have hv := Z.val_bd true hbs
    have hg := Z.Got.bits_ret (n := n) hgo true
    rw [hnb] at hv
    repeat' (first | (refine pN_lss_s ?_ ?_ <;> intro hc <;> try (exfalso; omega)) | refine pIf_f ?_ | fail)
    exact hQ _ _ _ hg hv.1 hv.2 hS
end
end Go.Proofs.YtbgnnjfpiblkmaaGreatDoor

namespace Go.Proofs.YtbgnnjfpiblkmaaGreatDoor
open Go
attribute [local irreducible] oMv oV oU oCall oCallV oBi oBin oUn oLoad oStore oNil oFld oField oIdx oIndex oPick oAlloc oBox oBuild oBs oConv oMk oSl oExt oFn oIface oMap oLook oMapUp oRange oNext oEntry oInv oAssert oPanic oRes pN pA pL pDr pIf gA pGd Calls

section
variable {E w W : World} {M : List HA} {Q : Value → World → Prop} {p : Z.Pr} {st : Z.St} {x : Z.W} {B : List UInt8} {r dd bm na : Nat} {sa s0 : Sl} {z : Option Z.RS}
end
end Go.Proofs.YtbgnnjfpiblkmaaGreatDoor

namespace Go.Proofs.YtbgnnjfpiblkmaaGreatDoor
open Go
attribute [local irreducible] oMv oV oU oCall oCallV oBi oBin oUn oLoad oStore oNil oFld oField oIdx oIndex oPick oAlloc oBox oBuild oBs oConv oMk oSl oExt oFn oIface oMap oLook oMapUp oRange oNext oEntry oInv oAssert oPanic oRes pN pA pL pDr pIf gA pGd Calls

section
variable {E w W : World} {M : List HA} {Q : Value → World → Prop} {p : Z.Pr} {st : Z.St} {x : Z.W} {B : List UInt8} {r c dd bm bw be b : Nat} {z : Option Z.RS} {f : Bool}
theorem R10Last_or (hS : Sat E w (RWin b x :: M)) (h0 : 0 ≤ x.size) (hl : x.all.length ≤ 140737488355328) (d : Int) (hQ : ∀ w, Sat E w (RWin b x :: M) → Q (.tuple #[bv (Z.lastOr x d), .int .i64 (if x.has d then 0 else 7)]) w) :
    Calls Tryz.prog 153 #[pz b, .int .i64 d] w (retP Q) := by
  by_cases hd : x.has d
  · refine R10Last_in hS h0 hl d hd fun w hS => ?_
    have := hQ w hS
    rw [Z.lastOr, if_pos hd, if_pos hd] at this
    exact this
  · refine R10Last_no hS h0 d hd fun w hS => ?_
    have := hQ w hS
    rw [Z.lastOr, if_neg hd, if_neg hd] at this
    exact this
set_option maxHeartbeats 1000000 in
theorem d15length7_ok (hp : p.Ok) (hB : B.length ≤ 140737488355328) (hS : Sat E w (cel r (d15C c dd z.isNone f) :: Cod c p bw st bm be :: D15 p B dd bm z :: RWin bw x :: M))
    (hQ : ∀ y v w, Z.Got (Z.lenRd 7 p x.all.length) z y v → Z.isLen v → Sat E w (cel r (d15C c dd y.isNone f) :: Cod c p bw st bm be :: D15 p B dd bm y :: RWin bw x :: M) → Q (.int .i64 v) w) :
    Calls Tryz.prog 194 #[pz r, .string ⟨#[77, 97, 116, 99, 104]⟩] w (retP Q) := by
  refine pithref15_Decoder_length.calls ?_
  unfold pithref15_Decoder_length.F
  have hpl := place_bd hp x.all.length
  have hp100 : 0 ≤ Z.place p x.all.length ∧ Z.place p x.all.length < 100 := by omega
  have e3 : (2 : Int) ^ 3 = 8 := by decide
  have e8 : (2 : Int) ^ 8 = 256 := by decide
  repeat' (first | refine pN_sadd (by decide) ?_ | fail)
  refine pc_pithref15_Decoder_bit (d15bit_ok (cs := coderC p bw st bm be) hp hB rfl hS (Z.at_7_0 Z.pre14 p) fun z1 b1 w g1 hb1 hS => ?_)
  rcases hb1 with rfl | rfl
  · repeat' (first | refine pN_sadd (by decide) ?_ | (refine pc_pithref14_Coder_Place (R14Place_ok (hS.fd2 (cel c) (RWin bw)) hp ?_); clear hS; intro w hS) | refine pc_pithref15_set (d15set_ok _ (Z.place p x.all.length) hp100 (by decide) ?_) | (refine pN_eql_s ?_ ?_ <;> intro hc <;> try (exfalso; first | omega | exact hc rfl | exact hc (by assumption) | exact absurd hc (by assumption))) | refine pIf_t ?_ | refine pN_l hS (by first | rfl | assumption) ?_ | refine pN_v (hk := ?_) | fail)
    refine pc_pithref15_Decoder_tree (d15tree_ok (cs := coderC p bw st bm be) 3 (by decide) hp hB rfl (hS.fd3 (cel r) (cel c) (D15 p B dd bm)) (fun v h0 h1 => Z.at_8 Z.pre14 p (by omega) (by rw [e3] at h1; omega)) fun z2 v2 w g2 v0 v1 hS => ?_)
    rw [e3] at v1
    repeat' (first | refine pN_v (hk := ?_) | fail)
    refine hQ z2 _ _ (Z.Got.bit g1 ?_) ⟨by omega, by omega⟩ hS.to
    rw [if_pos rfl]
    exact g2.map
  · repeat' (first | refine pN_sadd (by decide) ?_ | (refine pN_eql_s ?_ ?_ <;> intro hc <;> try (exfalso; first | omega | exact hc rfl | exact hc (by assumption) | exact absurd hc (by assumption))) | refine pIf_f ?_ | fail)
    refine pc_pithref15_Decoder_bit (d15bit_ok (cs := coderC p bw st bm be) hp hB rfl hS (Z.at_7_1 Z.pre14 p) fun z2 b2 w g2 hb2 hS => ?_)
    rcases hb2 with rfl | rfl
    · repeat' (first | refine pN_sadd (by decide) ?_ | (refine pc_pithref14_Coder_Place (R14Place_ok (hS.fd2 (cel c) (RWin bw)) hp ?_); clear hS; intro w hS) | refine pc_pithref15_set (d15set_ok _ (Z.place p x.all.length) hp100 (by decide) ?_) | (refine pN_eql_s ?_ ?_ <;> intro hc <;> try (exfalso; first | omega | exact hc rfl | exact hc (by assumption) | exact absurd hc (by assumption))) | refine pIf_t ?_ | refine pN_l hS (by first | rfl | assumption) ?_ | refine pN_v (hk := ?_) | fail)
      refine pc_pithref15_Decoder_tree (d15tree_ok (cs := coderC p bw st bm be) 3 (by decide) hp hB rfl (hS.fd3 (cel r) (cel c) (D15 p B dd bm)) (fun v h0 h1 => Z.at_9 Z.pre14 p (by omega) (by rw [e3] at h1; omega)) fun z3 v3 w g3 v0 v1 hS => ?_)
      rw [e3] at v1
      repeat' (first | refine pN_v (hk := ?_) | fail)
      refine hQ z3 _ _ (Z.Got.bit g1 ?_) ⟨by omega, by omega⟩ hS.to
      rw [if_neg (by decide)]
      refine Z.Got.bit g2 ?_
      rw [if_pos rfl]
      exact g3.map
    · repeat' (first | refine pN_sadd (by decide) ?_ | (refine pN_eql_s ?_ ?_ <;> intro hc <;> try (exfalso; first | omega | exact hc rfl | exact hc (by assumption) | exact absurd hc (by assumption))) | refine pIf_f ?_ | fail)
      refine pc_pithref15_Decoder_tree (d15tree_ok (cs := coderC p bw st bm be) 8 (by decide) hp hB rfl (hS.fd3 (cel r) (cel c) (D15 p B dd bm)) (fun v h0 h1 => Z.at_10 Z.pre14 p (by rw [e8] at h1; omega)) fun z3 v3 w g3 v0 v1 hS => ?_)
      rw [e8] at v1
      repeat' (first | refine pN_v (hk := ?_) | fail)
      refine hQ z3 _ _ (Z.Got.bit g1 ?_) ⟨by omega, by omega⟩ hS.to
      rw [if_neg (by decide)]
      refine Z.Got.bit g2 ?_
      rw [if_neg (by decide)]
      exact g3.map
set_option maxHeartbeats 1000000 in
theorem d15length11_ok (hp : p.Ok) (hB : B.length ≤ 140737488355328) (hS : Sat E w (cel r (d15C c dd z.isNone f) :: Cod c p bw st bm be :: D15 p B dd bm z :: RWin bw x :: M))
    (hQ : ∀ y v w, Z.Got (Z.lenRd 11 p x.all.length) z y v → Z.isLen v → Sat E w (cel r (d15C c dd y.isNone f) :: Cod c p bw st bm be :: D15 p B dd bm y :: RWin bw x :: M) → Q (.int .i64 v) w) :
    Calls Tryz.prog 194 #[pz r, .string ⟨#[82, 101, 112]⟩] w (retP Q) := by
  refine pithref15_Decoder_length.calls ?_
  unfold pithref15_Decoder_length.F
  have hpl := place_bd hp x.all.length
  have hp100 : 0 ≤ Z.place p x.all.length ∧ Z.place p x.all.length < 100 := by omega
  have e3 : (2 : Int) ^ 3 = 8 := by decide
  have e8 : (2 : Int) ^ 8 = 256 := by decide
  repeat' (first | refine pN_sadd (by decide) ?_ | fail)
  refine pc_pithref15_Decoder_bit (d15bit_ok (cs := coderC p bw st bm be) hp hB rfl hS (Z.at_11_0 Z.pre14 p) fun z1 b1 w g1 hb1 hS => ?_)
  rcases hb1 with rfl | rfl
  · repeat' (first | refine pN_sadd (by decide) ?_ | (refine pc_pithref14_Coder_Place (R14Place_ok (hS.fd2 (cel c) (RWin bw)) hp ?_); clear hS; intro w hS) | refine pc_pithref15_set (d15set_ok _ (Z.place p x.all.length) hp100 (by decide) ?_) | (refine pN_eql_s ?_ ?_ <;> intro hc <;> try (exfalso; first | omega | exact hc rfl | exact hc (by assumption) | exact absurd hc (by assumption))) | refine pIf_t ?_ | refine pN_l hS (by first | rfl | assumption) ?_ | refine pN_v (hk := ?_) | fail)
    refine pc_pithref15_Decoder_tree (d15tree_ok (cs := coderC p bw st bm be) 3 (by decide) hp hB rfl (hS.fd3 (cel r) (cel c) (D15 p B dd bm)) (fun v h0 h1 => Z.at_12 Z.pre14 p (by omega) (by rw [e3] at h1; omega)) fun z2 v2 w g2 v0 v1 hS => ?_)
    rw [e3] at v1
    repeat' (first | refine pN_v (hk := ?_) | fail)
    refine hQ z2 _ _ (Z.Got.bit g1 ?_) ⟨by omega, by omega⟩ hS.to
    rw [if_pos rfl]
    exact g2.map
  · repeat' (first | refine pN_sadd (by decide) ?_ | (refine pN_eql_s ?_ ?_ <;> intro hc <;> try (exfalso; first | omega | exact hc rfl | exact hc (by assumption) | exact absurd hc (by assumption))) | refine pIf_f ?_ | fail)
    refine pc_pithref15_Decoder_bit (d15bit_ok (cs := coderC p bw st bm be) hp hB rfl hS (Z.at_11_1 Z.pre14 p) fun z2 b2 w g2 hb2 hS => ?_)
    rcases hb2 with rfl | rfl
    · repeat' (first | refine pN_sadd (by decide) ?_ | (refine pc_pithref14_Coder_Place (R14Place_ok (hS.fd2 (cel c) (RWin bw)) hp ?_); clear hS; intro w hS) | refine pc_pithref15_set (d15set_ok _ (Z.place p x.all.length) hp100 (by decide) ?_) | (refine pN_eql_s ?_ ?_ <;> intro hc <;> try (exfalso; first | omega | exact hc rfl | exact hc (by assumption) | exact absurd hc (by assumption))) | refine pIf_t ?_ | refine pN_l hS (by first | rfl | assumption) ?_ | refine pN_v (hk := ?_) | fail)
      refine pc_pithref15_Decoder_tree (d15tree_ok (cs := coderC p bw st bm be) 3 (by decide) hp hB rfl (hS.fd3 (cel r) (cel c) (D15 p B dd bm)) (fun v h0 h1 => Z.at_13 Z.pre14 p (by omega) (by rw [e3] at h1; omega)) fun z3 v3 w g3 v0 v1 hS => ?_)
      rw [e3] at v1
      repeat' (first | refine pN_v (hk := ?_) | fail)
      refine hQ z3 _ _ (Z.Got.bit g1 ?_) ⟨by omega, by omega⟩ hS.to
      rw [if_neg (by decide)]
      refine Z.Got.bit g2 ?_
      rw [if_pos rfl]
      exact g3.map
    · repeat' (first | refine pN_sadd (by decide) ?_ | (refine pN_eql_s ?_ ?_ <;> intro hc <;> try (exfalso; first | omega | exact hc rfl | exact hc (by assumption) | exact absurd hc (by assumption))) | refine pIf_f ?_ | fail)
      refine pc_pithref15_Decoder_tree (d15tree_ok (cs := coderC p bw st bm be) 8 (by decide) hp hB rfl (hS.fd3 (cel r) (cel c) (D15 p B dd bm)) (fun v h0 h1 => Z.at_14 Z.pre14 p (by rw [e8] at h1; omega)) fun z3 v3 w g3 v0 v1 hS => ?_)
      rw [e8] at v1
      repeat' (first | refine pN_v (hk := ?_) | fail)
      refine hQ z3 _ _ (Z.Got.bit g1 ?_) ⟨by omega, by omega⟩ hS.to
      rw [if_neg (by decide)]
      refine Z.Got.bit g2 ?_
      rw [if_neg (by decide)]
      exact g3.map

set_option maxHeartbeats 2000000 in
theorem d15distance_ok {n : Int} (hn : Z.isLen n) (hp : p.Ok) (hB : B.length ≤ 140737488355328) (hS : Sat E w (cel r (d15C c dd z.isNone f) :: Cod c p bw st bm be :: D15 p B dd bm z :: RWin bw x :: M))
    (hQ : ∀ y v w, Z.Got (Z.distRd n) z y v → -9223372036854775808 ≤ v → v < 9223372036854775808 → Sat E w (cel r (d15C c dd y.isNone f) :: Cod c p bw st bm be :: D15 p B dd bm y :: RWin bw x :: M) → Q (.int .i64 v) w) :
    Calls Tryz.prog 195 #[pz r, .int .i64 n] w (retP Q) := by
  refine pithref15_Decoder_distance.calls ?_
  unfold pithref15_Decoder_distance.F
  obtain ⟨n1, n2⟩ := hn
  have e6 : (2 : Int) ^ 6 = 64 := by decide
  have e4 : (2 : Int) ^ 4 = 16 := by decide
  have hmk2 : 0 ≤ min (n - 2) 3 ∧ min (n - 2) 3 < 4 := by omega
  repeat' (first | refine pN_v (hk := ?_) | fail)
  refine ⟨fun v w => v = .int .i64 (min (n - 2) 3) ∧ Sat E w (cel r (d15C c dd z.isNone f) :: Cod c p bw st bm be :: D15 p B dd bm z :: RWin bw x :: M), ?_, ?_⟩
  · repeat' (first | (refine pN_gtr_s ?_ ?_ <;> intro hc <;> try (exfalso; omega)) | refine pIf_t ?_ | refine pIf_f ?_ | fail)
    all_goals exact ⟨by congr 1; omega, hS⟩
  clear hS
  rintro _ _ w ⟨rfl, hS⟩
  repeat' (first | refine pc_pithref15_set (d15set_ok _ (min (n - 2) 3) (by omega) (by decide) ?_) | fail)
  refine pc_pithref15_Decoder_tree (d15tree_ok (cs := coderC p bw st bm be) 6 (by decide) hp hB rfl hS (fun v h0 h1 => Z.at_15 Z.pre14 p hmk2 (by rw [e6] at h1; omega)) fun z1 v w g1 s0 s1 hS => ?_)
  rw [e6] at s1
  have hlb := least_bd s0 s1
  have hb0 := Z.bits_0 s0
  obtain ⟨k, rfl⟩ : ∃ k : Nat, v = k := ⟨v.toNat, by omega⟩
  by_cases h4 : (k : Int) < 4
  · repeat' (first | refine pc_pithref12_Range (R12Range_in k (by omega) ?_) | (refine pN_lss_s ?_ ?_ <;> intro hc <;> try (exfalso; omega)) | refine pIf_t ?_ | refine pN_v (hk := ?_) | fail)
    refine hQ z1 _ _ (Z.Got.bind g1 ?_) (by omega) (by omega) hS
    rw [if_pos h4]
    exact Z.Got.ret _ _
  by_cases h14 : (k : Int) < 14
  · have hr := Z.rest_law k (by omega) (by omega)
    have hrb : (2 : Int) ^ Z.bitsN k ≤ 2 ^ 5 := two_le' hr.2.2.1
    have e5 : (2 : Int) ^ 5 = 32 := by decide
    have hrp : (0 : Int) < 2 ^ Z.bitsN k := Int.pow_pos (by omega)
    repeat' (first | refine pc_pithref12_Range (R12Range_in k (by omega) ?_) | refine pc_pithref15_set (d15set_ok _ (k : Int) (by omega) (by decide) ?_) | (refine pN_lss_s ?_ ?_ <;> intro hc <;> try (exfalso; omega)) | refine pIf_t ?_ | refine pIf_f ?_ | refine pN_v (hk := ?_) | fail)
    refine pc_pithref15_Decoder_back (d15back_ok (cs := coderC p bw st bm be) (Z.bitsN k) (by omega) hp hB rfl hS (fun u h0 h1 => Z.at_16 Z.pre14 p (by omega) ⟨by omega, h1⟩) fun z2 u w g2 u0 u1 hS => ?_)
    repeat' (first | refine pN_v (hk := ?_) | fail)
    refine hQ z2 _ _ (Z.Got.bind g1 ?_) (by omega) (by omega) hS
    rw [if_neg (by omega), if_pos h14]
    exact g2.map
  · have hlate := Z.late_bits (s := k) (by omega)
    have hbm : (Z.bitsN k : Int) - 4 = ((Z.bitsN k - 4 : Nat) : Int) := by omega
    have hub : (2 : Int) ^ (Z.bitsN k - 4) ≤ 2 ^ 26 := two_le' (by omega)
    have e26 : (2 : Int) ^ 26 = 67108864 := by decide
    cases z1 with
    | none =>
      simp only [Option.isNone_none] at hS
      repeat' (first | refine pc_pithref12_Range (R12Range_in k (by omega) ?_) | (refine pN_lss_s ?_ ?_ <;> intro hc <;> try (exfalso; omega)) | refine pIf_t ?_ | refine pIf_f ?_ | refine pN_l hS (by first | rfl | assumption) ?_ | refine pN_v (hk := ?_) | fail)
      exact hQ none 0 _ (Z.Got.bind g1 (by rw [if_neg h4, if_neg h14]; rfl)) (by omega) (by omega) hS
    | some s1' =>
      simp only [Option.isNone_some] at hS
      repeat' (first | refine pc_pithref12_Range (R12Range_in k (by omega) ?_) | (refine pN_lss_s ?_ ?_ <;> intro hc <;> try (exfalso; omega)) | refine pIf_f ?_ | refine pN_l hS (by first | rfl | assumption) ?_ | refine pN_v (hk := ?_) | fail)
      have hO := D15.opn (hS.fd (D15 p B dd bm))
      clear hS
      obtain ⟨y, N, ho, hyb, hys, hrel, hS⟩ := hO
      have hsy := hys _ rfl
      have hrun := Z.dirQ_run (s := y) (n := Z.bitsN k - 4) (by omega)
      have hbd := dirQ_bd (d := y.d) (n := Z.bitsN k - 4) (by omega)
      have hok := D.dirQ_ok ho.d ((Z.bitsN k - 4 : Nat) : Int)
      have hev := dirQ_e y.d ((Z.bitsN k - 4 : Nat) : Int)
      rw [hbm]
      repeat' (first | (refine pc_pithref08_Decoder_Direct (R8Direct_q (hS.fd (RDec dd)) ho.d (by rw [hyb]; exact hB) ((Z.bitsN k - 4 : Nat) : Int) ?_); clear hS; intro w hS) | (refine pN_neq_s ?_ ?_ <;> intro hc <;> try (exfalso; first | omega | exact hc rfl | exact hc (by assumption) | exact absurd hc (by assumption))) | refine pIf_t ?_ | refine pIf_f ?_ | (refine pN_s hS (by first | exact Nat.le_of_ble_eq_true rfl | assumption) (by rfl) ?_; clear hS; intro w hS; try simp only [List.set_cons_zero, List.set_cons_succ] at hS) | refine pN_v (hk := ?_) | fail)
      · rw [if_pos hc] at hrun
        generalize y.d.dirQ ((Z.bitsN k - 4 : Nat) : Int) = u at *
        have hS := D15.shut (p := p) (B := B) (z := some ⟨u.1, y.T⟩) (y := ⟨u.1, y.T⟩) (hS.fd2 (RDec dd) (NSets RSet Z.fresh bm)) ⟨hok.1, ho.T⟩ (hok.2.trans hyb) (fun _ h => by cases h; rfl) hrel
        have hS : Sat E _ (cel r (d15C c dd false f) :: Cod c p bw st bm be :: D15 p B dd bm (some ⟨u.1, y.T⟩) :: RWin bw x :: M) := hS.to
        refine pc_pithref15_Decoder_back (d15back_ok (cs := coderC p bw st bm be) (nme := [65, 108, 105, 103, 110]) (z := some ⟨u.1, y.T⟩) 4 (by decide) hp hB rfl hS (fun u h0 h1 => Z.at_17 Z.pre14 p (by rw [e4] at h1; omega)) fun z3 a w g3 a0 a1 hS => ?_)
        rw [e4] at a1
        have e16 : (16 : Int) * u.2.1 = u.2.1 * 16 := Int.mul_comm _ _
        rw [e16]
        repeat' (first | refine pN_v (hk := ?_) | fail)
        refine hQ z3 _ _ (Z.Got.bind g1 ?_) (by omega) (by omega) hS
        rw [if_neg (by omega), if_neg h14]
        refine Z.Got.bind (y := some ⟨u.1, y.T⟩) (a := u.2.1) ?_ g3.map
        show Z.Rd.run _ _ = _
        rw [← hsy, hrun]; rfl
      · rw [if_neg hc] at hrun
        generalize y.d.dirQ ((Z.bitsN k - 4 : Nat) : Int) = u at *
        have hS := D15.shut (p := p) (B := B) (z := none) (y := ⟨u.1, y.T⟩) (hS.fd2 (RDec dd) (NSets RSet Z.fresh bm)) ⟨hok.1, ho.T⟩ (hok.2.trans hyb) (fun _ h => by cases h) hrel
        have hS : Sat E _ (cel r (d15C c dd true f) :: Cod c p bw st bm be :: D15 p B dd bm none :: RWin bw x :: M) := hS.to
        refine hQ none 0 _ (Z.Got.bind g1 ?_) (by omega) (by omega) hS
        rw [if_neg (by omega), if_neg h14]
        refine Z.Got.bind (y := none) (a := 0) ?_ rfl
        show Z.Rd.run _ _ = _
        rw [← hsy, hrun]; rfl
end
end Go.Proofs.YtbgnnjfpiblkmaaGreatDoor

namespace Go.Proofs.YtbgnnjfpiblkmaaGreatDoor
open Go
attribute [local irreducible] oMv oV oU oCall oCallV oBi oBin oUn oLoad oStore oNil oFld oField oIdx oIndex oPick oAlloc oBox oBuild oBs oConv oMk oSl oExt oFn oIface oMap oLook oMapUp oRange oNext oEntry oInv oAssert oPanic oRes pN pA pL pDr pIf gA pGd Calls

section
variable {E w W : World} {M : List HA} {Q : Value → World → Prop} {p : Z.Pr} {st : Z.St} {x : Z.W} {B : List UInt8} {r c dd bm bw be b : Nat} {z : Option Z.RS} {f : Bool}
set_option maxRecDepth 8000 in
set_option maxHeartbeats 2000000 in
theorem d15literal_ok (hp : p.Ok) (hs : st.Right) (hB : B.length ≤ 140737488355328) (hx : x.all.length ≤ 140737488355328) (h1 : 1 ≤ x.size) (hS : Sat E w (cel r (d15C c dd z.isNone f) :: Cod c p bw st bm be :: D15 p B dd bm z :: RWin bw x :: M))
    (hQ : ∀ y v w, Z.Got (Z.litRd p st x) z y v → 0 ≤ v → v < 256 → Sat E w (cel r (d15C c dd y.isNone f) :: Cod c p bw st bm be :: D15 p B dd bm y :: RWin bw x :: M) → Q (bv (byteOf v)) w) :
    Calls Tryz.prog 193 #[pz r] w (retP Q) := by
  refine pithref15_Decoder_literal.calls ?_
  unfold pithref15_Decoder_literal.F
  have hn := hs.num
  have hc := context_bd hp x.all.length (Z.lastOr x 1).toNat (by omega) (by have := (Z.lastOr x 1).toNat_lt; omega)
  have tl := Z.tabLen_bd hp 6
  have e8 : (2 : Int) ^ 8 = 256 := by decide
  unfold Z.litRd at hQ
  have hcx : Z.context p x.all.length (Z.lastOr x 1).toNat = 768 * ((x.all.length : Int) % 2 ^ p.lp.toNat * 2 ^ p.lc.toNat + ((Z.lastOr x 1).toNat : Int) / 2 ^ (8 - p.lc).toNat) := rfl
  rw [hcx] at hQ hc
  obtain ⟨fr, hfr⟩ : ∃ fr, fr = (x.all.length : Int) % 2 ^ p.lp.toNat * 2 ^ p.lc.toNat + ((Z.lastOr x 1).toNat : Int) / 2 ^ (8 - p.lc).toNat := ⟨_, rfl⟩
  rw [← hfr] at hQ hc
  have hfr16 : 0 ≤ fr ∧ fr < 16 := by omega
  have hA : ∀ {j : Int}, 0 ≤ j → j < 768 → Z.At Z.pre14 p (Z.nm [76, 105, 116, 101, 114, 97, 108] [fr]) j 6 (768 * fr + j) := fun h0 h1 => Z.at_6 Z.pre14 p ⟨by omega, by omega⟩ (by omega) ⟨h0, h1⟩
  have hu0 := (Z.lastOr x st.r0).toNat_lt
  by_cases h7 : st.num < 7
  · rw [if_pos h7] at hQ
    repeat' (first | (refine pc_pithref14_Coder_Literal (R14Literal_ok (hS.fd2 (cel c) (RWin bw)) hp hx (Z.lastOr x 1) (Z.lastOr_1 h1) ?_); clear hS; intro w hS) | (refine pc_pithref10_Window_Last (R10Last_or (hS.fd (RWin bw)) (by omega) hx st.r0 ?_); clear hS; intro w hS) | refine And.intro ?_ ?_ | exact trivial | (refine pN_geq_s ?_ ?_ <;> intro hc <;> try (exfalso; omega)) | refine pN_l hS (by first | rfl | assumption) ?_ | refine pL_l hS (by first | rfl | assumption) ?_ | (refine pDr_go hS ?_; clear hS; intro w hS) | refine pN_v (hk := ?_) | refine pA_v (hk := ?_) | fail)
    rw [← hfr]
    generalize Z.lastOr x st.r0 = tb at *
    refine ⟨fun sm m i w => ∃ (bs : List Int) (z1 : Option Z.RS), m = .int .i64 (R.nodeL bs) ∧ sm = .bool false ∧ i = .int .i64 (7 - (bs.length : Int)) ∧ bs.length ≤ 8 ∧ R.Bits bs ∧ (∀ y v, Z.Got (Z.bitsRd 6 (768 * fr) (8 - bs.length) bs) z1 y v → Z.Got (Z.bitsRd 6 (768 * fr) 8 []) z y v) ∧
      Sat E w (cel r (d15C c dd z1.isNone f) :: Cod c p bw st bm be :: D15 p B dd bm z1 :: RWin bw x :: M), fun _ _ i _ => (RowKit.intOf i + 1).toNat, ⟨[], z, rfl, rfl, rfl, by simp, fun _ h => (by cases h), fun _ _ h => h, hS.to⟩, ?_⟩
    clear hS
    rintro _ _ _ _ w ⟨bs, z1, rfl, rfl, rfl, hk, hbs, hgo, hS⟩
    have hnd := R.nodeL_bd hbs
    have h9 : (2 : Int) ^ (bs.length + 1) ≤ 2 ^ 9 := two_le' (by omega)
    have e9 : (2 : Int) ^ 9 = 512 := by decide
    have hp0 : (0 : Int) < 2 ^ bs.length := Int.pow_pos (by omega)
    by_cases hlt : bs.length < 8
    · have hpn : (2 : Int) ^ (bs.length + 1) ≤ 2 ^ 8 := two_le' (by omega)
      obtain ⟨i, hi⟩ : ∃ i : Nat, 7 - (bs.length : Int) = i := ⟨7 - bs.length, by omega⟩
      rw [hi]
      have h1le : i ≤ 64 := by omega
      repeat' (first | (refine pN_geq_s ?_ ?_ <;> intro hc <;> try (exfalso; omega)) | refine pIf_t ?_ | fail)
      refine ⟨fun sm m w => ∃ (b : Int) (z2 : Option Z.RS), (b = 0 ∨ b = 1) ∧ m = .int .i64 (2 * R.nodeL bs + b) ∧ sm = .bool false ∧ Z.Got (.bit 6 (768 * fr + R.nodeL bs) .ret) z1 z2 b ∧ Sat E w (cel r (d15C c dd z2.isNone f) :: Cod c p bw st bm be :: D15 p B dd bm z2 :: RWin bw x :: M), ?_, ?_⟩
      · repeat' (first | refine pN_shr_k i rfl h1le ?_ | refine pN_ofb ?_ | refine pN_v (hk := ?_) | fail)
        refine ⟨fun v w => v = .int .i64 (R.nodeL bs) ∧ Sat E w (cel r (d15C c dd z1.isNone f) :: Cod c p bw st bm be :: D15 p B dd bm z1 :: RWin bw x :: M), ?_, ?_⟩
        · repeat' (first | refine pIf_f ?_ | fail)
          exact ⟨rfl, hS.to⟩
        clear hS
        rintro _ _ w ⟨rfl, hS⟩
        skip
        refine pc_pithref15_Decoder_bit (d15bit_ok (cs := coderC p bw st bm be) hp hB rfl hS (hA (by omega) (by omega)) fun z2 b w g hb hS => ?_)
        rcases hb with rfl | rfl
        · repeat' (first | refine pGd_no (by rfl) ?_ | refine pN_v (hk := ?_) | fail)
          exact ⟨_, z2, .inl rfl, rfl, rfl, g, hS.to⟩
        · repeat' (first | refine pGd_no (by rfl) ?_ | refine pN_v (hk := ?_) | fail)
          exact ⟨_, z2, .inr rfl, rfl, rfl, g, hS.to⟩
      · clear hS
        rintro _ _ _ w ⟨b, z2, hb, rfl, rfl, g, hS⟩
        repeat' (first | refine pN_v (hk := ?_) | fail)
        refine ⟨⟨bs ++ [b], z2, by rw [R.nodeL_snoc], rfl, by simp; omega, by simp; omega, hbs.snoc hb, fun y u hx => hgo y u ?_, hS⟩, by simp only [RowKit.intOf]; omega⟩
        rw [show 8 - bs.length = (8 - (bs ++ [b]).length) + 1 from by simp; omega]
        exact Z.Got.bit g hx
    · have hnb : bs.length = 8 := by omega
      rw [hnb, Nat.sub_self] at hgo
      have hv := Z.val_bd false hbs
      have hnh := Z.node_horner bs
      have hg := Z.Got.bits_ret (n := 8) hgo false
      rw [hnb, e8] at hv hnh
      have hvh : R.val false bs = R.horner bs := rfl
      have e256 : R.nodeL bs - 256 = R.val false bs := by rw [hnh, hvh]; omega
      rw [hnb, show 7 - ((8 : Nat) : Int) = -1 from by decide]
      repeat' (first | (refine pN_geq_s ?_ ?_ <;> intro hc <;> try (exfalso; omega)) | refine pIf_f ?_ | refine pN_tob ?_ | refine pN_v (hk := ?_) | fail)
      rw [e256]
      skip
      exact hQ z1 _ _ hg hv.1 hv.2 hS.to
  · rw [if_neg h7] at hQ
    repeat' (first | (refine pc_pithref14_Coder_Literal (R14Literal_ok (hS.fd2 (cel c) (RWin bw)) hp hx (Z.lastOr x 1) (Z.lastOr_1 h1) ?_); clear hS; intro w hS) | (refine pc_pithref10_Window_Last (R10Last_or (hS.fd (RWin bw)) (by omega) hx st.r0 ?_); clear hS; intro w hS) | refine And.intro ?_ ?_ | exact trivial | (refine pN_geq_s ?_ ?_ <;> intro hc <;> try (exfalso; omega)) | refine pN_l hS (by first | rfl | assumption) ?_ | refine pL_l hS (by first | rfl | assumption) ?_ | (refine pDr_go hS ?_; clear hS; intro w hS) | refine pN_v (hk := ?_) | refine pA_v (hk := ?_) | fail)
    rw [← hfr]
    generalize Z.lastOr x st.r0 = tb at *
    refine ⟨fun sm m i w => ∃ (k : Nat) (m' : Int) (same : Bool) (z1 : Option Z.RS), sm = .bool same ∧ i = .int .i64 ((k : Int) - 1) ∧ m = .int .i64 m' ∧ k ≤ 8 ∧ 1 ≤ m' ∧ 2 ^ (8 - k) ≤ m' ∧ m' < 2 ^ (9 - k) ∧ (∀ y v, Z.Got (Z.litGoRd (768 * fr) tb.toNat k m' same) z1 y v → Z.Got (Z.litGoRd (768 * fr) tb.toNat 8 1 true) z y v) ∧
      Sat E w (cel r (d15C c dd z1.isNone f) :: Cod c p bw st bm be :: D15 p B dd bm z1 :: RWin bw x :: M), fun _ _ i _ => (RowKit.intOf i + 1).toNat, ⟨8, 1, true, z, rfl, rfl, rfl, by omega, by omega, by decide, by decide, fun _ _ h => h, hS.to⟩, ?_⟩
    clear hS
    rintro _ _ _ _ w ⟨k, m', same, z1, rfl, rfl, rfl, hk8, hm1, hm0, hm2, hgo, hS⟩
    cases k with
    | zero =>
      have e9 : (2 : Int) ^ 9 = 512 := by decide
      rw [show 8 - 0 = 8 from rfl, e8] at hm0
      rw [show 9 - 0 = 9 from rfl, e9] at hm2
      repeat' (first | (refine pN_geq_s ?_ ?_ <;> intro hc <;> try (exfalso; omega)) | refine pIf_f ?_ | refine pN_tob ?_ | refine pN_v (hk := ?_) | fail)
      exact hQ z1 _ _ (hgo z1 _ (Z.Got.ret _ _)) (by omega) (by omega) hS.to
    | succ i =>
      have ei : ((i + 1 : Nat) : Int) - 1 = (i : Int) := by omega
      rw [ei]
      have hub : 0 ≤ (tb.toNat : Int) / 2 ^ i % 2 ∧ (tb.toNat : Int) / 2 ^ i % 2 ≤ 1 := by omega
      have e9 : (2 : Int) ^ (9 - i) = 2 ^ (9 - (i + 1)) * 2 := by rw [show 9 - i = (9 - (i + 1)) + 1 from by omega, Int.pow_succ]
      have e10 : (2 : Int) ^ (8 - i) = 2 ^ (8 - (i + 1)) * 2 := by rw [show 8 - i = (8 - (i + 1)) + 1 from by omega, Int.pow_succ]
      have hm8 : m' < 256 := by
        have : (2 : Int) ^ (9 - (i + 1)) ≤ 2 ^ 8 := two_le' (by omega)
        omega
      have h1le : i ≤ 64 := by omega
      repeat' (first | (refine pN_geq_s ?_ ?_ <;> intro hc <;> try (exfalso; omega)) | refine pIf_t ?_ | fail)
      refine ⟨fun sm m w => ∃ (b : Int) (z2 : Option Z.RS), (b = 0 ∨ b = 1) ∧ m = .int .i64 (2 * m' + b) ∧ sm = .bool (same && decide (b = (tb.toNat : Int) / 2 ^ i % 2)) ∧ (∀ y v, Z.Got (Z.litGoRd (768 * fr) tb.toNat i (2 * m' + b) (same && decide (b = (tb.toNat : Int) / 2 ^ i % 2))) z2 y v → Z.Got (Z.litGoRd (768 * fr) tb.toNat 8 1 true) z y v) ∧ Sat E w (cel r (d15C c dd z2.isNone f) :: Cod c p bw st bm be :: D15 p B dd bm z2 :: RWin bw x :: M), ?_, ?_⟩
      · repeat' (first | refine pN_shr_k i rfl h1le ?_ | refine pN_ofb ?_ | refine pN_v (hk := ?_) | fail)
        rw [Int.tmod_eq_emod_of_nonneg (show 0 ≤ (tb.toNat : Int) / 2 ^ i from Int.ediv_nonneg (by omega) (Int.pow_nonneg (by omega)))]
        generalize hub2 : (tb.toNat : Int) / 2 ^ i % 2 = ub at *
        refine ⟨fun v w => v = .int .i64 ((if same = true then 256 * (1 + ub) else 0) + m') ∧ Sat E w (cel r (d15C c dd z1.isNone f) :: Cod c p bw st bm be :: D15 p B dd bm z1 :: RWin bw x :: M), ?_, ?_⟩
        · cases same
          · repeat' (first | refine pIf_f ?_ | fail)
            exact ⟨by simp, hS.to⟩
          · repeat' (first | refine pIf_t ?_ | refine pN_v (hk := ?_) | fail)
            exact ⟨by simp, hS.to⟩
        clear hS
        rintro _ _ w ⟨rfl, hS⟩
        skip
        refine pc_pithref15_Decoder_bit (d15bit_ok (cs := coderC p bw st bm be) hp hB rfl hS (hA (by split <;> omega) (by split <;> omega)) fun z2 b w g hb hS => ?_)
        have hgo2 : ∀ y v, Z.Got (Z.litGoRd (768 * fr) tb.toNat i (2 * m' + b) (same && decide (b = ub))) z2 y v → Z.Got (Z.litGoRd (768 * fr) tb.toNat 8 1 true) z y v := fun y v h => hgo y v (by
          rw [Z.litGoRd, hub2, Int.add_assoc, Int.add_comm m']; exact Z.Got.bit g h)
        cases same
        · rcases hb with rfl | rfl
          · repeat' (first | refine pGd_no (by rfl) ?_ | refine pN_v (hk := ?_) | fail)
            exact ⟨_, z2, .inl rfl, rfl, rfl, hgo2, hS.to⟩
          · repeat' (first | refine pGd_no (by rfl) ?_ | refine pN_v (hk := ?_) | fail)
            exact ⟨_, z2, .inr rfl, rfl, rfl, hgo2, hS.to⟩
        · rcases hb with rfl | rfl
          · repeat' (first | (refine pN_eql_s ?_ ?_ <;> intro hc <;> try (exfalso; first | omega | exact hc rfl | exact hc (by assumption) | exact absurd hc (by assumption))) | refine pGd_go (by rfl) ?_ | refine pN_v (hk := ?_) | fail)
            · exact ⟨_, z2, .inl rfl, rfl, by rw [decide_eq_true hc]; rfl, hgo2, hS.to⟩
            · exact ⟨_, z2, .inl rfl, rfl, by rw [decide_eq_false hc]; rfl, hgo2, hS.to⟩
          · repeat' (first | (refine pN_eql_s ?_ ?_ <;> intro hc <;> try (exfalso; first | omega | exact hc rfl | exact hc (by assumption) | exact absurd hc (by assumption))) | refine pGd_go (by rfl) ?_ | refine pN_v (hk := ?_) | fail)
            · exact ⟨_, z2, .inr rfl, rfl, by rw [decide_eq_true hc]; rfl, hgo2, hS.to⟩
            · exact ⟨_, z2, .inr rfl, rfl, by rw [decide_eq_false hc]; rfl, hgo2, hS.to⟩
      · clear hS
        rintro _ _ _ w ⟨b, z2, hb, rfl, rfl, hgo2, hS⟩
        repeat' (first | refine pN_v (hk := ?_) | fail)
        exact ⟨⟨i, _, _, z2, rfl, rfl, rfl, by omega, by omega, by omega, by omega, hgo2, hS⟩, by simp [RowKit.intOf] <;> omega⟩
end
end Go.Proofs.YtbgnnjfpiblkmaaGreatDoor

namespace Go.Proofs.YtbgnnjfpiblkmaaGreatDoor
open Go
attribute [local irreducible] oMv oV oU oCall oCallV oBi oBin oUn oLoad oStore oNil oFld oField oIdx oIndex oPick oAlloc oBox oBuild oBs oConv oMk oSl oExt oFn oIface oMap oLook oMapUp oRange oNext oEntry oInv oAssert oPanic oRes pN pA pL pDr pIf gA pGd Calls

section
variable {E w W : World} {M : List HA} {Q : Value → World → Prop} {p : Z.Pr} {st : Z.St} {x : Z.W} {B : List UInt8} {r dd bm na : Nat} {sa s0 : Sl} {z : Option Z.RS}
end
end Go.Proofs.YtbgnnjfpiblkmaaGreatDoor

namespace Go.Proofs.YtbgnnjfpiblkmaaGreatDoor
open Go
attribute [local irreducible] oMv oV oU oCall oCallV oBi oBin oUn oLoad oStore oNil oFld oField oIdx oIndex oPick oAlloc oBox oBuild oBs oConv oMk oSl oExt oFn oIface oMap oLook oMapUp oRange oNext oEntry oInv oAssert oPanic oRes pN pA pL pDr pIf gA pGd Calls

section
variable {E w W : World} {M : List HA} {Q : Value → World → Prop} {p : Z.Pr} {st : Z.St} {x : Z.W} {B : List UInt8} {r c dd bm bw be b : Nat} {z : Option Z.RS} {f : Bool}
set_option maxRecDepth 8000 in
set_option maxHeartbeats 4000000 in
theorem d15symbol_ok (hp : p.Ok) (hs : st.Right) (hB : B.length ≤ 140737488355328) (hx : x.all.length ≤ 140737488355328) (h1 : 1 ≤ x.size) (hS : Sat E w (cel r (d15C c dd z.isNone f) :: Cod c p bw st bm be :: D15 p B dd bm z :: RWin bw x :: M))
    (hQ : ∀ y v w, Z.Got (Z.symRd p st x) z y v → Sat E w (cel r (d15C c dd y.isNone f) :: Cod c p bw st bm be :: D15 p B dd bm y :: RWin bw x :: M) → Q (.agg #[.int .i64 v.Kind, bv v.Byte, .int .i64 v.Len, .int .i64 v.Dist]) w) :
    Calls Tryz.prog 172 #[pz r] w (retP Q) := by
  refine pithref15_Decoder_symbol.calls ?_
  unfold pithref15_Decoder_symbol.F
  have hpl := place_bd hp x.all.length
  have hn := hs.num
  have hn100 : 0 ≤ st.num ∧ st.num < 100 := by omega
  have hp100 : 0 ≤ Z.place p x.all.length ∧ Z.place p x.all.length < 100 := by omega
  repeat' (first | (refine pN_nz hS ?_; clear hS; intro ay w hS) | refine And.intro ?_ ?_ | exact trivial | exact run_l hS rfl | refine pc_pithref15_set (d15set_ok [73, 115, 77, 97, 116, 99, 104] st.num hn100 (by decide) ?_) | refine pc_pithref15_set (d15set2_ok [73, 115, 77, 97, 116, 99, 104] st.num (Z.place p x.all.length) hn100 hp100 (by decide) ?_) | (refine pc_pithref14_Coder_Place (R14Place_ok (hS.fd2 (cel c) (RWin bw)) hp ?_); clear hS; intro w hS) | refine pN_l hS (by first | rfl | assumption) ?_ | refine pL_l hS (by first | rfl | assumption) ?_ | (refine pDr_go hS ?_; clear hS; intro w hS) | refine pN_v (hk := ?_) | refine pA_v (hk := ?_) | fail)
  refine pc_pithref15_Decoder_bit (d15bit_ok (cs := coderC p bw st bm be) hp hB rfl (hS.fd3 (cel r) (cel c) (D15 p B dd bm)) (Z.at_0 Z.pre14 p hn hpl) fun z1 b1 w g1 hb1 hS => ?_)
  rcases hb1 with rfl | rfl
  · repeat' (first | refine And.intro ?_ ?_ | exact trivial | (refine pA_eql_s ?_ ?_ <;> intro hc <;> try (exfalso; first | omega | exact hc rfl | exact hc (by assumption) | exact absurd hc (by assumption))) | refine pIf_t ?_ | fail)
    have hS : Sat E _ (cel r (d15C c dd z1.isNone f) :: Cod c p bw st bm be :: D15 p B dd bm z1 :: RWin bw x :: cel ay ⟨48, [.int .i64 0, bv 0, .int .i64 0, .int .i64 0]⟩ :: M) := hS.to
    refine pc_pithref15_Decoder_literal (d15literal_ok hp hs hB hx h1 hS fun z2 v w g2 v0 v1 hS => ?_)
    repeat' (first | refine pL_ra hS (by rfl) ?_ | (refine pN_sa hS (by rfl) (by rfl) (by rfl) ?_; clear hS; intro w hS; try dsimp only at hS) | refine pN_v (hk := ?_) | fail)
    exact hQ z2 ⟨1, byteOf v, 0, 0⟩ _ (Z.Got.bit g1 (by rw [if_pos rfl]; exact g2.map)) hS.to
  repeat' (first | refine And.intro ?_ ?_ | exact trivial | refine pc_pithref15_set (d15set_ok [73, 115, 82, 101, 112] st.num hn100 (by decide) ?_) | (refine pA_eql_s ?_ ?_ <;> intro hc <;> try (exfalso; first | omega | exact hc rfl | exact hc (by assumption) | exact absurd hc (by assumption))) | refine pIf_f ?_ | fail)
  have hS : Sat E _ (cel r (d15C c dd z1.isNone f) :: Cod c p bw st bm be :: D15 p B dd bm z1 :: RWin bw x :: cel ay ⟨48, [.int .i64 0, bv 0, .int .i64 0, .int .i64 0]⟩ :: M) := hS.to
  refine pc_pithref15_Decoder_bit (d15bit_ok (cs := coderC p bw st bm be) hp hB rfl hS (Z.at_2 Z.pre14 p hn) fun z2 b2 w g2 hb2 hS => ?_)
  rcases hb2 with rfl | rfl
  · repeat' (first | (refine pN_eql_s ?_ ?_ <;> intro hc <;> try (exfalso; first | omega | exact hc rfl | exact hc (by assumption) | exact absurd hc (by assumption))) | refine pIf_t ?_ | fail)
    refine pc_pithref15_Decoder_length (d15length7_ok hp hB hS fun z3 n w g3 hn3 hS => ?_)
    skip
    refine pc_pithref15_Decoder_distance (d15distance_ok hn3 hp hB hS fun z4 d w g4 d0 d1 hS => ?_)
    repeat' (first | refine pL_ra hS (by rfl) ?_ | (refine pN_sa hS (by rfl) (by rfl) (by rfl) ?_; clear hS; intro w hS; try dsimp only at hS) | refine pN_v (hk := ?_) | fail)
    refine hQ z4 ⟨2, 0, n, d⟩ _ (Z.Got.bit g1 ?_) hS.to
    rw [if_neg (by decide)]
    refine Z.Got.bit g2 ?_
    rw [if_pos rfl]
    exact Z.Got.bind g3 g4.map
  repeat' (first | (refine pN_eql_s ?_ ?_ <;> intro hc <;> try (exfalso; first | omega | exact hc rfl | exact hc (by assumption) | exact absurd hc (by assumption))) | refine pIf_f ?_ | fail)
  refine ⟨fun i w => ∃ (d : Int) (z4 : Option Z.RS), i = .int .i64 d ∧ (∀ y v, Z.Got (Z.repRd p x.all.length d) z4 y v → Z.Got (Z.symRd p st x) z y v) ∧ Sat E w (cel r (d15C c dd z4.isNone f) :: Cod c p bw st bm be :: D15 p B dd bm z4 :: RWin bw x :: cel ay ⟨48, [.int .i64 0, bv 0, .int .i64 0, .int .i64 0]⟩ :: M), ?_, ?_⟩
  · repeat' (first | refine pc_pithref15_set (d15set_ok [73, 115, 82, 101, 112, 48] st.num hn100 (by decide) ?_) | fail)
    refine pc_pithref15_Decoder_bit (d15bit_ok (cs := coderC p bw st bm be) hp hB rfl hS (Z.at_3 Z.pre14 p hn) fun z3 b3 w g3 hb3 hS => ?_)
    rcases hb3 with rfl | rfl
    · repeat' (first | refine And.intro ?_ ?_ | exact trivial | exact run_l hS rfl | refine pc_pithref15_set (d15set_ok [73, 115, 76, 111, 110, 103] st.num hn100 (by decide) ?_) | refine pc_pithref15_set (d15set2_ok [73, 115, 76, 111, 110, 103] st.num (Z.place p x.all.length) hn100 hp100 (by decide) ?_) | (refine pc_pithref14_Coder_Place (R14Place_ok (hS.fd2 (cel c) (RWin bw)) hp ?_); clear hS; intro w hS) | (refine pN_eql_s ?_ ?_ <;> intro hc <;> try (exfalso; first | omega | exact hc rfl | exact hc (by assumption) | exact absurd hc (by assumption))) | refine pIf_t ?_ | refine pL_l hS (by first | rfl | assumption) ?_ | (refine pDr_go hS ?_; clear hS; intro w hS) | refine pA_v (hk := ?_) | fail)
      refine pc_pithref15_Decoder_bit (d15bit_ok (cs := coderC p bw st bm be) hp hB rfl (hS.fd3 (cel r) (cel c) (D15 p B dd bm)) (Z.at_1 Z.pre14 p hn hpl) fun z4 b4 w g4 hb4 hS => ?_)
      rcases hb4 with rfl | rfl
      · repeat' (first | refine And.intro ?_ ?_ | exact trivial | (refine pA_eql_s ?_ ?_ <;> intro hc <;> try (exfalso; first | omega | exact hc rfl | exact hc (by assumption) | exact absurd hc (by assumption))) | refine pIf_t ?_ | refine pL_ra hS (by rfl) ?_ | (refine pN_sa hS (by rfl) (by rfl) (by rfl) ?_; clear hS; intro w hS; try dsimp only at hS) | refine pN_v (hk := ?_) | fail)
        refine hQ z4 ⟨4, 0, 0, 0⟩ _ (Z.Got.bit g1 ?_) hS.to
        rw [if_neg (by decide)]
        refine Z.Got.bit g2 ?_
        rw [if_neg (by decide)]
        refine Z.Got.bit g3 ?_
        rw [if_pos rfl]
        refine Z.Got.bit g4 ?_
        rw [if_pos rfl]
        exact Z.Got.ret _ _
      · repeat' (first | refine And.intro ?_ ?_ | exact trivial | (refine pA_eql_s ?_ ?_ <;> intro hc <;> try (exfalso; first | omega | exact hc rfl | exact hc (by assumption) | exact absurd hc (by assumption))) | refine pIf_f ?_ | fail)
        refine ⟨0, z4, rfl, fun y v h => Z.Got.bit g1 ?_, hS.to⟩
        rw [if_neg (by decide)]
        refine Z.Got.bit g2 ?_
        rw [if_neg (by decide)]
        refine Z.Got.bit g3 ?_
        rw [if_pos rfl]
        refine Z.Got.bit g4 ?_
        rw [if_neg (by decide)]
        exact h
    repeat' (first | refine pc_pithref15_set (d15set_ok [73, 115, 82, 101, 112, 49] st.num hn100 (by decide) ?_) | (refine pN_eql_s ?_ ?_ <;> intro hc <;> try (exfalso; first | omega | exact hc rfl | exact hc (by assumption) | exact absurd hc (by assumption))) | refine pIf_f ?_ | fail)
    refine pc_pithref15_Decoder_bit (d15bit_ok (cs := coderC p bw st bm be) hp hB rfl hS (Z.at_4 Z.pre14 p hn) fun z4 b4 w g4 hb4 hS => ?_)
    rcases hb4 with rfl | rfl
    · repeat' (first | (refine pN_eql_s ?_ ?_ <;> intro hc <;> try (exfalso; first | omega | exact hc rfl | exact hc (by assumption) | exact absurd hc (by assumption))) | refine pIf_f ?_ | fail)
      refine ⟨1, z4, rfl, fun y v h => Z.Got.bit g1 ?_, hS.to⟩
      rw [if_neg (by decide)]
      refine Z.Got.bit g2 ?_
      rw [if_neg (by decide)]
      refine Z.Got.bit g3 ?_
      rw [if_neg (by decide)]
      refine Z.Got.bit g4 ?_
      rw [if_pos rfl]
      exact h
    · repeat' (first | refine pc_pithref15_set (d15set_ok [73, 115, 82, 101, 112, 50] st.num hn100 (by decide) ?_) | (refine pN_eql_s ?_ ?_ <;> intro hc <;> try (exfalso; first | omega | exact hc rfl | exact hc (by assumption) | exact absurd hc (by assumption))) | refine pIf_t ?_ | fail)
      refine pc_pithref15_Decoder_bit (d15bit_ok (cs := coderC p bw st bm be) hp hB rfl hS (Z.at_5 Z.pre14 p hn) fun z5 b5 w g5 hb5 hS => ?_)
      repeat' (first | refine pN_v (hk := ?_) | fail)
      refine ⟨2 + b5, z5, rfl, fun y v h => Z.Got.bit g1 ?_, hS.to⟩
      rw [if_neg (by decide)]
      refine Z.Got.bit g2 ?_
      rw [if_neg (by decide)]
      refine Z.Got.bit g3 ?_
      rw [if_neg (by decide)]
      refine Z.Got.bit g4 ?_
      rw [if_neg (by decide)]
      exact Z.Got.bit g5 h
  · clear hS
    rintro _ _ w ⟨d, z4, rfl, hgo, hS⟩
    skip
    refine pc_pithref15_Decoder_length (d15length11_ok hp hB hS fun z5 n w g5 hn5 hS => ?_)
    repeat' (first | refine pL_ra hS (by rfl) ?_ | (refine pN_sa hS (by rfl) (by rfl) (by rfl) ?_; clear hS; intro w hS; try dsimp only at hS) | refine pN_v (hk := ?_) | fail)
    exact hQ z5 ⟨3, 0, n, d⟩ _ (hgo _ _ g5.map) hS.to
end
end Go.Proofs.YtbgnnjfpiblkmaaGreatDoor
