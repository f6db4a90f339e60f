/-
  Printed by a program of mine (lift.py): each function of the seat as a plain proposition over values and worlds; that the program meets it.
-/
import Derived.Test.YtoejaggkedlfmaaRows
import Derived.Test.YtoejaggkedlfmaaFacts
namespace Go.Proofs.Ytoejaggkedlfmaa
open Go
set_option linter.unusedSimpArgs false
set_option linter.unnecessarySimpa false
set_option linter.unusedSectionVars false
set_option linter.unusedVariables false
set_option maxRecDepth 100000

/-! rcdec_New: pith/rcdec.New; temporaries: 0:b 1:b 4:d 5:_ 6:c -/
def rcdec_New.H : Hints := { cut := fun  | _ => none, loop := fun | 5 => ([18], 68719214656) | _ => ([], 0), order := fun | 9 => [(0, 0), (1, 1), (2, 3), (3, 7), (4, 15), (5, 31), (6, 63), (7, 127), (8, 255), (9, 511), (10, 1023), (11, 2047), (12, 4095), (13, 8191), (14, 16383), (15, 32767), (16, 65535)] | _ => [] }
def rcdec_New.F [Pan] (x0 : Value) (w : World) (Q : Value → World → Prop) : Prop :=
 pN Try.prog (oBi .len #[29] 3 [false] [x0]) w fun x8 w1 =>
 pN Try.prog (oBin .lss 3 (.tmp 8) (.const (.int .i64 5)) x8 (.int .i64 5)) w1 fun x9 w2 =>
 pIf x9
 (Q (.tuple #[(.pointer none), (.int .i64 1)]) w2)
 (pN Try.prog (oBi .append #[29, 29] 29 [true, false] [(.slice none 0 0), x0]) w2 fun x11 w3 =>
 pN Try.prog (oBuild 147 [(0, (.int .i64 5)), (1, (.int .u32 4294967295))]) w3 fun x12 w4 =>
 pN Try.prog (oBuild 149 [(0, x11), (1, x12)]) w4 fun x13 w5 =>
 pN Try.prog (oBox 149 x13) w5 fun x14 w6 =>
 pN Try.prog (oSl 29 x0 (some (.int .i64 1)) (some (.int .i64 5)) none) w6 fun x16 w7 =>
 pN Try.prog (oBi .len #[29] 3 [false] [x16]) w7 fun x17 w8 =>
 ∃ (L5 : Value → World → Prop) (m5 : Value → World → Nat),
 L5 (.int .i64 0) w8 ∧
 ∀ (_k5 : Env) (v18l5 : Value) (w9 : World), L5 v18l5 w9 →
 pN Try.prog (oBin .lss 3 (.tmp 18) (.tmp 17) v18l5 x17) w9 fun x19 w10 =>
 pIf x19
 (pN Try.prog (oIdx 29 x16 v18l5) w10 fun x20 w11 =>
 pN Try.prog (oLoad 5 x20) w11 fun x21 w12 =>
 pN Try.prog (oNil x14) w12 fun x24 w13 =>
 pN Try.prog (oFld 149 x24 1) w13 fun x25 w14 =>
 pN Try.prog (oFld 147 x25 2) w14 fun x26 w15 =>
 pN Try.prog (oLoad 26 x26) w15 fun x27 w16 =>
 pN Try.prog (oBin .shl 26 (.tmp 27) (.const (.int .u64 8)) x27 (.int .u64 8)) w16 fun x28 w17 =>
 pN Try.prog (oConv 5 26 x21) w17 fun x30 w18 =>
 pN Try.prog (oBin .or 26 (.tmp 28) (.tmp 30) x28 x30) w18 fun x31 w19 =>
 pN Try.prog (oNil x14) w19 fun x32 w20 =>
 pN Try.prog (oFld 149 x32 1) w20 fun x33 w21 =>
 pN Try.prog (oFld 147 x33 2) w21 fun x34 w22 =>
 pN Try.prog (oStore 26 x34 x31) w22 fun _ w23 =>
 pN Try.prog (oBin .add 3 (.tmp 18) (.const (.int .i64 1)) v18l5 (.int .i64 1)) w23 fun x35 w24 =>
 (L5 x35 w24 ∧ m5 x35 w24 < m5 v18l5 w9))
 (pDr w10 fun w25 =>
 pA Try.prog (oIdx 29 x0 (.int .i64 0)) fun x37 =>
 pL Try.prog (oLoad 5 x37) w25 fun x38 =>
 pA Try.prog (oBin .neq 5 (.tmp 38) (.const (.int .u8 0)) x38 (bv 0)) fun x39 =>
 gA (gB x39 false) (pA Try.prog (oMv x14)) fun x41 =>
 gA (gB x39 false) (pA Try.prog (oNil x41)) fun x42 =>
 gA (gB x39 false) (pA Try.prog (oFld 149 x42 1)) fun x43 =>
 gA (gB x39 false) (pA Try.prog (oFld 147 x43 2)) fun x44 =>
 gA (gB x39 false) (pL Try.prog (oLoad 26 x44) w25) fun x45 =>
 gA (gB x39 false) (pA Try.prog (oMv x14)) fun x46 =>
 gA (gB x39 false) (pA Try.prog (oNil x46)) fun x47 =>
 gA (gB x39 false) (pA Try.prog (oFld 149 x47 1)) fun x48 =>
 gA (gB x39 false) (pA Try.prog (oFld 147 x48 1)) fun x49 =>
 gA (gB x39 false) (pL Try.prog (oLoad 26 x49) w25) fun x50 =>
 gA (gB x39 false) (pA Try.prog (oBin .eql 26 (.tmp 45) (.tmp 50) x45 x50)) fun x51 =>
 pA Try.prog (oPick x39 (.bool true) x51) fun x52 =>
 pIf x52
 (Q (.tuple #[(.pointer none), (.int .i64 2)]) w25)
 (Q (.tuple #[x14, (.int .i64 0)]) w25)))
noncomputable def rcdec_New.c : Code := match Try.f42.body with | some c => c | none => .skip
theorem rcdec_New.eq [Pan] (x0 : Value) (w : World) (Q : Value → World → Prop) : cw Try.prog rcdec_New.H rcdec_New.c (endQ Try.prog Try.f42.results.toList Q) (argsE [x0]) w = rcdec_New.F x0 w Q := by kernel_rfl
theorem rcdec_New.calls [Pan] {x0 : Value} {w : World} {Q : Value → World → Prop} (h : rcdec_New.F x0 w Q) : Calls Try.prog 42 #[x0] w (retP Q) :=
  calls_of_cw (H := rcdec_New.H) (c := rcdec_New.c) (args := [x0]) mixed Try.func42 (by kernel_rfl) (by kernel_rfl) (Nat.le_of_ble_eq_true (by kernel_rfl)) ((rcdec_New.eq x0 w Q).mpr h)

/-! rcdec_Decoder_Direct: (*pith/rcdec.Decoder).Direct; temporaries: 0:d 1:n 2:d 3:n 4:v 5:err 6:half -/
def rcdec_Decoder_Direct.H : Hints := { cut := fun | 11 => some ([], 281474439839744) | 13 => some ([], 71776119061217280) | 15 => some ([], 9223372036852678720) | _ => none, loop := fun | 5 => ([19], 18446744073709027392) | _ => ([], 0), order := fun  | _ => [] }
noncomputable def rcdec_Decoder_Direct.c : Code := match Try.f47.body with | some c => c | none => .skip
def rcdec_Decoder_Direct.F [Pan] (x0 : Value) (x1 : Value) (w : World) (Q : Value → World → Prop) : Prop :=
 pN Try.prog (oBox 75 x0) w fun x2 w1 =>
 pN Try.prog (oAlloc 26) w1 fun x4 w2 =>
 pN Try.prog (oAlloc 27) w2 fun x5 w3 =>
 pN Try.prog (oBin .lss 3 (.tmp 7) (.const (.int .i64 0)) x1 (.int .i64 0)) w3 fun x8 w4 =>
 pGd (gB x8 false) (pN Try.prog (oMv x1) w4) w4 fun x10 w5 =>
 pGd (gB x8 false) (pN Try.prog (oBin .gtr 3 (.tmp 10) (.const (.int .i64 32)) x10 (.int .i64 32)) w5) w5 fun x11 w6 =>
 pN Try.prog (oPick x8 (.bool true) x11) w6 fun x12 w7 =>
 pIf x12
 (pN Try.prog (oStore 26 x4 (.int .u32 0)) w7 fun _ w8 =>
 pN Try.prog (oStore 27 x5 (.int .i64 7)) w8 fun _ w9 =>
 pL Try.prog (oRes 26 x4) w9 fun r4 =>
 pL Try.prog (oRes 27 x5) w9 fun r5 =>
 Q (.tuple #[r4, r5]) w9)
 (pN Try.prog (oFn (.func 89) [] [x2, x5, x4]) w7 fun x13 w10 =>
 pN Try.prog (oLoad 75 x2) w10 fun x14 w11 =>
 pN Try.prog (oNil x14) w11 fun x15 w12 =>
 pN Try.prog (oFld 149 x15 1) w12 fun x16 w13 =>
 pN Try.prog (oLoad 147 x16) w13 fun x17 w14 =>
 pDf Try.prog (oDf x13 [x17]) w14 fun d =>
 ∃ Z : Pan, (∀ (ch : List PanicEntry) (w15 : World), Z.z ch w15 → dE Try.prog d (.panicking ch) w15 fun w16 =>
 pL Try.prog (oRes 26 x4) w16 fun r4 =>
 pL Try.prog (oRes 27 x5) w16 fun r5 =>
 Q (.tuple #[r4, r5]) w16) ∧
 (∃ (L5 : Value → World → Prop) (m5 : Value → World → Nat),
 L5 (.int .i64 0) w14 ∧
 ∀ (_k5 : Env) (v19l5 : Value) (w17 : World), L5 v19l5 w17 →
 pN Try.prog (oBin .lss 3 (.tmp 19) (.tmp 18) v19l5 x1) w17 fun x20 w18 =>
 pIf x20
 (∃ I15 : World → Prop,
 (pN Try.prog (oLoad 75 x2) w18 fun x21 w19 =>
 pN Try.prog (oNil x21) w19 fun x22 w20 =>
 pN Try.prog (oFld 149 x22 1) w20 fun x23 w21 =>
 pN Try.prog (oFld 147 x23 1) w21 fun x24 w22 =>
 pN Try.prog (oLoad 26 x24) w22 fun x25 w23 =>
 pN Try.prog (oBin .quo 26 (.tmp 25) (.const (.int .u32 2)) x25 (.int .u32 2)) w23 fun x26 w24 =>
 pN Try.prog (oLoad 26 x4) w24 fun x27 w25 =>
 pN Try.prog (oBin .shl 26 (.tmp 27) (.const (.int .u64 1)) x27 (.int .u64 1)) w25 fun x28 w26 =>
 pN Try.prog (oStore 26 x4 x28) w26 fun _ w27 =>
 ∃ I11 : World → Prop,
 (pN Try.prog (oLoad 75 x2) w27 fun x29 w28 =>
 pN Try.prog (oNil x29) w28 fun x30 w29 =>
 pN Try.prog (oFld 149 x30 1) w29 fun x31 w30 =>
 pN Try.prog (oFld 147 x31 2) w30 fun x32 w31 =>
 pN Try.prog (oLoad 26 x32) w31 fun x33 w32 =>
 pN Try.prog (oBin .geq 26 (.tmp 33) (.tmp 34) x33 x26) w32 fun x35 w33 =>
 pIf x35
 (pN Try.prog (oLoad 75 x2) w33 fun x36 w34 =>
 pN Try.prog (oNil x36) w34 fun x37 w35 =>
 pN Try.prog (oFld 149 x37 1) w35 fun x38 w36 =>
 pN Try.prog (oFld 147 x38 2) w36 fun x39 w37 =>
 pN Try.prog (oLoad 26 x39) w37 fun x40 w38 =>
 pN Try.prog (oBin .sub 26 (.tmp 40) (.tmp 41) x40 x26) w38 fun x42 w39 =>
 pN Try.prog (oNil x36) w39 fun x43 w40 =>
 pN Try.prog (oFld 149 x43 1) w40 fun x44 w41 =>
 pN Try.prog (oFld 147 x44 2) w41 fun x45 w42 =>
 pN Try.prog (oStore 26 x45 x42) w42 fun _ w43 =>
 pN Try.prog (oLoad 26 x4) w43 fun x46 w44 =>
 pN Try.prog (oBin .or 26 (.tmp 46) (.const (.int .u32 1)) x46 (.int .u32 1)) w44 fun x47 w45 =>
 pN Try.prog (oStore 26 x4 x47) w45 fun _ w46 =>
 I11 w46)
 (I11 w33)) ∧
 ∀ (_j11 : Env) (w47 : World), I11 w47 →
 ∃ I13 : World → Prop,
 (pN Try.prog (oLoad 75 x2) w47 fun x48 w48 =>
 pN Try.prog (oNil x48) w48 fun x49 w49 =>
 pN Try.prog (oFld 149 x49 1) w49 fun x50 w50 =>
 pN Try.prog (oFld 147 x50 2) w50 fun x51 w51 =>
 pN Try.prog (oLoad 26 x51) w51 fun x52 w52 =>
 pN Try.prog (oBin .eql 26 (.tmp 52) (.tmp 53) x52 x26) w52 fun x54 w53 =>
 pIf x54
 (pN Try.prog (oIface 154 (.int .i64 2)) w53 fun x55 w54 =>
 pN Try.prog (oPanic x55) w54 fun _ w55 =>
 I13 w55)
 (I13 w53)) ∧
 ∀ (_j13 : Env) (w56 : World), I13 w56 →
 pN Try.prog (oLoad 75 x2) w56 fun x56 w57 =>
 pN Try.prog (oNil x56) w57 fun x58 w58 =>
 pN Try.prog (oFld 149 x58 1) w58 fun x59 w59 =>
 pN Try.prog (oFld 147 x59 1) w59 fun x60 w60 =>
 pN Try.prog (oStore 26 x60 x26) w60 fun _ w61 =>
 pN Try.prog (oLoad 75 x2) w61 fun x61 w62 =>
 pN Try.prog (oCall 91 [x61]) w62 fun _ w63 =>
 I15 w63) ∧
 ∀ (_j15 : Env) (w64 : World), I15 w64 →
 pN Try.prog (oBin .add 3 (.tmp 19) (.const (.int .i64 1)) v19l5 (.int .i64 1)) w64 fun x63 w65 =>
 (L5 x63 w65 ∧ m5 x63 w65 < m5 v19l5 w17))
 (pN Try.prog (oLoad 26 x4) w18 fun x64 w66 =>
 pN Try.prog (oStore 26 x4 x64) w66 fun _ w67 =>
 pN Try.prog (oStore 27 x5 (.int .i64 0)) w67 fun _ w68 =>
 dE Try.prog d .returning w68 fun w69 =>
 pL Try.prog (oRes 26 x4) w69 fun r4 =>
 pL Try.prog (oRes 27 x5) w69 fun r5 =>
 Q (.tuple #[r4, r5]) w69)))
theorem rcdec_Decoder_Direct.eq [Pan] (x0 : Value) (x1 : Value) (w : World) (Q : Value → World → Prop) : cwD Try.prog rcdec_Decoder_Direct.H Try.f47.results.toList Q rcdec_Decoder_Direct.c (argsE [x0, x1]) w = rcdec_Decoder_Direct.F x0 x1 w Q := by kernel_rfl
theorem rcdec_Decoder_Direct.calls [Pan] {x0 : Value} {x1 : Value} {w : World} {Q : Value → World → Prop} (h : rcdec_Decoder_Direct.F x0 x1 w Q) : Calls Try.prog 47 #[x0, x1] w (retP Q) :=
  calls_of_cwD (H := rcdec_Decoder_Direct.H) (c := rcdec_Decoder_Direct.c) (args := [x0, x1]) mixed 6 Try.func47 (by kernel_rfl) (by kernel_rfl) (by kernel_rfl) (Nat.le_of_ble_eq_true (by kernel_rfl)) ((rcdec_Decoder_Direct.eq x0 x1 w Q).mpr h)

/-! rcdec_Decoder_Bit: (*pith/rcdec.Decoder).Bit; temporaries: 0:d 1:s 2:i 3:d 4:s 5:i 6:bit 7:err 8:p -/
def rcdec_Decoder_Bit.H : Hints := { cut := fun | 7 => some ([], 4286578688) | _ => none, loop := fun  | _ => ([], 0), order := fun | 3 => [(0, 0), (1, 1), (2, 3)] | 5 => [(0, 0), (1, 1), (2, 3), (3, 7), (4, 15), (5, 31), (6, 63), (7, 127), (8, 255)] | _ => [] }
noncomputable def rcdec_Decoder_Bit.c : Code := match Try.f49.body with | some c => c | none => .skip
def rcdec_Decoder_Bit.F [Pan] (x0 : Value) (x1 : Value) (x2 : Value) (w : World) (Q : Value → World → Prop) : Prop :=
 pN Try.prog (oBox 75 x0) w fun x3 w1 =>
 pN Try.prog (oBox 34 x1) w1 fun x4 w2 =>
 pN Try.prog (oBox 3 x2) w2 fun x5 w3 =>
 pN Try.prog (oAlloc 3) w3 fun x6 w4 =>
 pN Try.prog (oAlloc 27) w4 fun x7 w5 =>
 pN Try.prog (oLoad 34 x4) w5 fun x10 w6 =>
 pN Try.prog (oLoad 3 x5) w6 fun x11 w7 =>
 pN Try.prog (oCall 28 [x10, x11]) w7 fun x12 w8 =>
 pN Try.prog (oExt x12 0) w8 fun x13 w9 =>
 pN Try.prog (oExt x12 1) w9 fun x14 w10 =>
 pN Try.prog (oStore 27 x7 x14) w10 fun _ w11 =>
 pN Try.prog (oLoad 27 x7) w11 fun x15 w12 =>
 pN Try.prog (oBin .neq 27 (.tmp 15) (.const (.int .i64 0)) x15 (.int .i64 0)) w12 fun x16 w13 =>
 pIf x16
 (pDr w13 fun w14 =>
 pL Try.prog (oLoad 27 x7) w14 fun x17 =>
 pN Try.prog (oStore 3 x6 (.int .i64 0)) w14 fun _ w15 =>
 ((Sem.run Try.prog (oLoad 27 x7) w15 = .ok (.value x17) w15) ∧ True) ∧ (pN Try.prog (oStore 27 x7 x17) w15 fun _ w16 =>
 (True) ∧ (pL Try.prog (oRes 3 x6) w16 fun r6 =>
 pL Try.prog (oRes 27 x7) w16 fun r7 =>
 Q (.tuple #[r6, r7]) w16)))
 (pN Try.prog (oFn (.func 94) [] [x3, x7, x6, x4, x5]) w13 fun x18 w17 =>
 pN Try.prog (oLoad 75 x3) w17 fun x19 w18 =>
 pN Try.prog (oNil x19) w18 fun x20 w19 =>
 pN Try.prog (oFld 149 x20 1) w19 fun x21 w20 =>
 pN Try.prog (oLoad 147 x21) w20 fun x22 w21 =>
 pDf Try.prog (oDf x18 [x22]) w21 fun d =>
 ∃ Z : Pan, (∀ (ch : List PanicEntry) (w22 : World), Z.z ch w22 → dE Try.prog d (.panicking ch) w22 fun w23 =>
 pL Try.prog (oRes 3 x6) w23 fun r6 =>
 pL Try.prog (oRes 27 x7) w23 fun r7 =>
 Q (.tuple #[r6, r7]) w23) ∧
 (∃ I7 : World → Prop,
 (pDr w21 fun w24 =>
 pL Try.prog (oLoad 75 x3) w24 fun x23 =>
 pL Try.prog (oLoad 75 x3) w24 fun x24 =>
 pA Try.prog (oNil x24) fun x25 =>
 pA Try.prog (oFld 149 x25 1) fun x26 =>
 pA Try.prog (oFld 147 x26 1) fun x27 =>
 pL Try.prog (oLoad 26 x27) w24 fun x28 =>
 pN Try.prog (oCall 77 [x28, x13]) w24 fun x30 w25 =>
 ((Sem.run Try.prog (oLoad 75 x3) w25 = .ok (.value x23) w25) ∧ True) ∧ (pN Try.prog (oCall 95 [x23, x30]) w25 fun x31 w26 =>
 (True) ∧ (pIf x31
 (pN Try.prog (oStore 3 x6 (.int .i64 1)) w26 fun _ w27 =>
 I7 w27)
 (I7 w26)))) ∧
 ∀ (_j7 : Env) (w28 : World), I7 w28 →
 pN Try.prog (oLoad 75 x3) w28 fun x32 w29 =>
 pN Try.prog (oCall 91 [x32]) w29 fun _ w30 =>
 pN Try.prog (oLoad 3 x6) w30 fun x34 w31 =>
 pN Try.prog (oStore 3 x6 x34) w31 fun _ w32 =>
 pN Try.prog (oStore 27 x7 (.int .i64 0)) w32 fun _ w33 =>
 dE Try.prog d .returning w33 fun w34 =>
 pL Try.prog (oRes 3 x6) w34 fun r6 =>
 pL Try.prog (oRes 27 x7) w34 fun r7 =>
 Q (.tuple #[r6, r7]) w34))
theorem rcdec_Decoder_Bit.eq [Pan] (x0 : Value) (x1 : Value) (x2 : Value) (w : World) (Q : Value → World → Prop) : cwD Try.prog rcdec_Decoder_Bit.H Try.f49.results.toList Q rcdec_Decoder_Bit.c (argsE [x0, x1, x2]) w = rcdec_Decoder_Bit.F x0 x1 x2 w Q := by kernel_rfl
theorem rcdec_Decoder_Bit.calls [Pan] {x0 : Value} {x1 : Value} {x2 : Value} {w : World} {Q : Value → World → Prop} (h : rcdec_Decoder_Bit.F x0 x1 x2 w Q) : Calls Try.prog 49 #[x0, x1, x2] w (retP Q) :=
  calls_of_cwD (H := rcdec_Decoder_Bit.H) (c := rcdec_Decoder_Bit.c) (args := [x0, x1, x2]) mixed 8 Try.func49 (by kernel_rfl) (by kernel_rfl) (by kernel_rfl) (Nat.le_of_ble_eq_true (by kernel_rfl)) ((rcdec_Decoder_Bit.eq x0 x1 x2 w Q).mpr h)

/-! rcdec_Decoder_Used: (*pith/rcdec.Decoder).Used; temporaries: 0:d 1:d -/
def rcdec_Decoder_Used.H : Hints := { cut := fun  | _ => none, loop := fun  | _ => ([], 0), order := fun  | _ => [] }
def rcdec_Decoder_Used.F [Pan] (x0 : Value) (w : World) (Q : Value → World → Prop) : Prop :=
 pN Try.prog (oNil x0) w fun x4 w1 =>
 pN Try.prog (oFld 149 x4 1) w1 fun x5 w2 =>
 pN Try.prog (oFld 147 x5 0) w2 fun x6 w3 =>
 pN Try.prog (oLoad 3 x6) w3 fun x7 w4 =>
 Q x7 w4
noncomputable def rcdec_Decoder_Used.c : Code := match Try.f51.body with | some c => c | none => .skip
theorem rcdec_Decoder_Used.eq [Pan] (x0 : Value) (w : World) (Q : Value → World → Prop) : cw Try.prog rcdec_Decoder_Used.H rcdec_Decoder_Used.c (endQ Try.prog Try.f51.results.toList Q) (argsE [x0]) w = rcdec_Decoder_Used.F x0 w Q := by kernel_rfl
theorem rcdec_Decoder_Used.calls [Pan] {x0 : Value} {w : World} {Q : Value → World → Prop} (h : rcdec_Decoder_Used.F x0 w Q) : Calls Try.prog 51 #[x0] w (retP Q) :=
  calls_of_cw (H := rcdec_Decoder_Used.H) (c := rcdec_Decoder_Used.c) (args := [x0]) mixed Try.func51 (by kernel_rfl) (by kernel_rfl) (Nat.le_of_ble_eq_true (by kernel_rfl)) ((rcdec_Decoder_Used.eq x0 w Q).mpr h)

/-! rcdec_Decoder_Done: (*pith/rcdec.Decoder).Done; temporaries: 0:d 1:d -/
def rcdec_Decoder_Done.H : Hints := { cut := fun  | _ => none, loop := fun  | _ => ([], 0), order := fun | 1 => [(0, 0), (1, 1), (2, 3), (3, 7), (4, 15), (5, 31), (6, 63), (7, 127), (8, 255), (9, 511), (10, 1023), (11, 2047), (12, 4095), (13, 8191), (14, 16383), (15, 32767), (16, 65535), (17, 131071), (18, 262143), (19, 524287)] | _ => [] }
def rcdec_Decoder_Done.F [Pan] (x0 : Value) (w : World) (Q : Value → World → Prop) : Prop :=
 pDr w fun w1 =>
 pA Try.prog (oNil x0) fun x4 =>
 pA Try.prog (oFld 149 x4 1) fun x5 =>
 pA Try.prog (oFld 147 x5 0) fun x6 =>
 pL Try.prog (oLoad 3 x6) w1 fun x7 =>
 pA Try.prog (oNil x0) fun x9 =>
 pA Try.prog (oFld 149 x9 0) fun x10 =>
 pL Try.prog (oLoad 29 x10) w1 fun x11 =>
 pA Try.prog (oBi .len #[29] 3 [false] [x11]) fun x12 =>
 pA Try.prog (oBin .eql 3 (.tmp 7) (.tmp 12) x7 x12) fun x13 =>
 gA (gB x13 true) (pA Try.prog (oMv x0)) fun x15 =>
 gA (gB x13 true) (pA Try.prog (oNil x15)) fun x16 =>
 gA (gB x13 true) (pA Try.prog (oFld 149 x16 1)) fun x17 =>
 gA (gB x13 true) (pA Try.prog (oFld 147 x17 2)) fun x18 =>
 gA (gB x13 true) (pL Try.prog (oLoad 26 x18) w1) fun x19 =>
 gA (gB x13 true) (pA Try.prog (oBin .eql 26 (.tmp 19) (.const (.int .u32 0)) x19 (.int .u32 0))) fun x20 =>
 pA Try.prog (oPick x13 x20 (.bool false)) fun x21 =>
 Q x21 w1
noncomputable def rcdec_Decoder_Done.c : Code := match Try.f53.body with | some c => c | none => .skip
theorem rcdec_Decoder_Done.eq [Pan] (x0 : Value) (w : World) (Q : Value → World → Prop) : cw Try.prog rcdec_Decoder_Done.H rcdec_Decoder_Done.c (endQ Try.prog Try.f53.results.toList Q) (argsE [x0]) w = rcdec_Decoder_Done.F x0 w Q := by kernel_rfl
theorem rcdec_Decoder_Done.calls [Pan] {x0 : Value} {w : World} {Q : Value → World → Prop} (h : rcdec_Decoder_Done.F x0 w Q) : Calls Try.prog 53 #[x0] w (retP Q) :=
  calls_of_cw (H := rcdec_Decoder_Done.H) (c := rcdec_Decoder_Done.c) (args := [x0]) mixed Try.func53 (by kernel_rfl) (by kernel_rfl) (Nat.le_of_ble_eq_true (by kernel_rfl)) ((rcdec_Decoder_Done.eq x0 w Q).mpr h)

/-! rcdec_Decoder_Direct_c1: (*pith/rcdec.Decoder).Direct$1; temporaries: 0:was 4:was -/
def rcdec_Decoder_Direct_c1.H : Hints := { cut := fun  | _ => none, loop := fun  | _ => ([], 0), order := fun | 1 => [(0, 0), (1, 1), (2, 3), (3, 7), (4, 15)] | _ => [] }
noncomputable def rcdec_Decoder_Direct_c1.c : Code := match Try.f89.body with | some c => c | none => .skip
noncomputable def rcdec_Decoder_Direct_c1.d (rv : Value) : Code := recCode 1 2 rv rcdec_Decoder_Direct_c1.c
def rcdec_Decoder_Direct_c1.F (rv : Value) (x0 : Value) (x1 : Value) (x2 : Value) (x3 : Value) (w : World) (Q : Value → World → Prop) : Prop :=
 pN Try.prog (oBox 147 x0) w fun x4 w1 =>
 pDr w1 fun w2 =>
 pL Try.prog (oLoad 75 x1) w2 fun x5 =>
 pL Try.prog (oLoad 147 x4) w2 fun x6 =>
 pN Try.prog (oCall 90 [x5, x6, rv]) w2 fun x8 w3 =>
 (True) ∧ (pN Try.prog (oStore 27 x2 x8) w3 fun _ w4 =>
 (True) ∧ (pN Try.prog (oLoad 27 x2) w4 fun x9 w5 =>
 pN Try.prog (oBin .neq 27 (.tmp 9) (.const (.int .i64 0)) x9 (.int .i64 0)) w5 fun x10 w6 =>
 pIf x10
 (pN Try.prog (oStore 26 x3 (.int .u32 0)) w6 fun _ w7 =>
 Q (.tuple #[]) w7)
 (Q (.tuple #[]) w6)))
theorem rcdec_Decoder_Direct_c1.eq (rv : Value) (x0 : Value) (x1 : Value) (x2 : Value) (x3 : Value) (w : World) (Q : Value → World → Prop) : cw Try.prog rcdec_Decoder_Direct_c1.H (rcdec_Decoder_Direct_c1.d rv) (endQ Try.prog Try.f89.results.toList Q) (argsE [x0, x1, x2, x3]) w = rcdec_Decoder_Direct_c1.F rv x0 x1 x2 x3 w Q := by kernel_rfl
theorem rcdec_Decoder_Direct_c1.panics {rv : Value} {older : List PanicEntry} {x0 : Value} {x1 : Value} {x2 : Value} {x3 : Value} {w : World} {Q : Value → World → Prop} (h : rcdec_Decoder_Direct_c1.F rv x0 x1 x2 x3 w Q) : CallsD Try.prog 89 #[x0, x1, x2, x3] (.panicking ({ v := rv, recovered := false } :: older)) w fun e u w => u = .panicking ({ v := rv, recovered := true } :: older) ∧ ∃ r, e = .returned r ∧ Q r w :=
  callsD_of_cw (H := rcdec_Decoder_Direct_c1.H) (c := rcdec_Decoder_Direct_c1.c) (c' := rcdec_Decoder_Direct_c1.d rv) (args := [x0, x1, x2, x3]) mixed (Or.inl ⟨older, rfl, rfl⟩) Try.func89 (by kernel_rfl) (rsp_of _ _ _ _ _ (by kernel_rfl)) (by kernel_rfl) (Nat.le_of_ble_eq_true (by kernel_rfl)) ((rcdec_Decoder_Direct_c1.eq rv x0 x1 x2 x3 w Q).mpr h)
theorem rcdec_Decoder_Direct_c1.idles {x0 : Value} {x1 : Value} {x2 : Value} {x3 : Value} {w : World} {Q : Value → World → Prop} (h : rcdec_Decoder_Direct_c1.F .nilIface x0 x1 x2 x3 w Q) : CallsD Try.prog 89 #[x0, x1, x2, x3] .returning w fun e u w => u = .returning ∧ ∃ r, e = .returned r ∧ Q r w :=
  callsD_of_cw (H := rcdec_Decoder_Direct_c1.H) (c := rcdec_Decoder_Direct_c1.c) (c' := rcdec_Decoder_Direct_c1.d .nilIface) (args := [x0, x1, x2, x3]) mixed (Or.inr ⟨rfl, rfl, rfl⟩) Try.func89 (by kernel_rfl) (rsp_of _ _ _ _ _ (by kernel_rfl)) (by kernel_rfl) (Nat.le_of_ble_eq_true (by kernel_rfl)) ((rcdec_Decoder_Direct_c1.eq .nilIface x0 x1 x2 x3 w Q).mpr h)

/-! rcdec_Decoder_back: (*pith/rcdec.Decoder).back; temporaries: 0:d 1:was 2:x 3:d 4:was 5:x 7:err 8:ok -/
def rcdec_Decoder_back.H : Hints := { cut := fun | 6 => some ([], 458752) | _ => none, loop := fun  | _ => ([], 0), order := fun  | _ => [] }
def rcdec_Decoder_back.F [Pan] (x0 : Value) (x1 : Value) (x2 : Value) (w : World) (Q : Value → World → Prop) : Prop :=
 pN Try.prog (oBox 147 x1) w fun x4 w1 =>
 pN Try.prog (oBin .eql 20 (.tmp 9) (.const .nilIface) x2 .nilIface) w1 fun x10 w2 =>
 pIf x10
 (Q (.int .i64 0) w2)
 (pN Try.prog (oAssert x2 20 154 true) w2 fun x13 w3 =>
 pN Try.prog (oExt x13 0) w3 fun x14 w4 =>
 pN Try.prog (oExt x13 1) w4 fun x15 w5 =>
 ∃ I6 : World → Prop,
 (pN Try.prog (oUn .not x15) w5 fun x17 w6 =>
 pIf x17
 (pN Try.prog (oPanic x2) w6 fun _ w7 =>
 I6 w7)
 (I6 w6)) ∧
 ∀ (_j6 : Env) (w8 : World), I6 w8 →
 pN Try.prog (oLoad 147 x4) w8 fun x20 w9 =>
 pN Try.prog (oNil x0) w9 fun x21 w10 =>
 pN Try.prog (oFld 149 x21 1) w10 fun x22 w11 =>
 pN Try.prog (oStore 147 x22 x20) w11 fun _ w12 =>
 Q x14 w12)
noncomputable def rcdec_Decoder_back.c : Code := match Try.f90.body with | some c => c | none => .skip
theorem rcdec_Decoder_back.eq [Pan] (x0 : Value) (x1 : Value) (x2 : Value) (w : World) (Q : Value → World → Prop) : cw Try.prog rcdec_Decoder_back.H rcdec_Decoder_back.c (endQ Try.prog Try.f90.results.toList Q) (argsE [x0, x1, x2]) w = rcdec_Decoder_back.F x0 x1 x2 w Q := by kernel_rfl
theorem rcdec_Decoder_back.calls [Pan] {x0 : Value} {x1 : Value} {x2 : Value} {w : World} {Q : Value → World → Prop} (h : rcdec_Decoder_back.F x0 x1 x2 w Q) : Calls Try.prog 90 #[x0, x1, x2] w (retP Q) :=
  calls_of_cw (H := rcdec_Decoder_back.H) (c := rcdec_Decoder_back.c) (args := [x0, x1, x2]) mixed Try.func90 (by kernel_rfl) (by kernel_rfl) (Nat.le_of_ble_eq_true (by kernel_rfl)) ((rcdec_Decoder_back.eq x0 x1 x2 w Q).mpr h)

/-! rcdec_Decoder_widen: (*pith/rcdec.Decoder).widen; temporaries: 0:d 1:d -/
def rcdec_Decoder_widen.H : Hints := { cut := fun | 3 => some ([], 1048320) | _ => none, loop := fun  | _ => ([], 0), order := fun | 1 => [(0, 0), (1, 1), (2, 3), (3, 7), (4, 15), (5, 31), (6, 63), (7, 127), (8, 255), (9, 511), (10, 1023)] | 4 => [(0, 0), (1, 1), (2, 3), (3, 7), (4, 15), (5, 31), (6, 63), (7, 127), (8, 255), (9, 511), (10, 1023), (11, 2047), (12, 4095), (13, 8191), (14, 16383), (15, 32767), (16, 65535), (17, 131071), (18, 262143), (19, 524287), (20, 1048575), (21, 2097151), (22, 4194303), (23, 8388607)] | _ => [] }
def rcdec_Decoder_widen.F [Pan] (x0 : Value) (w : World) (Q : Value → World → Prop) : Prop :=
 pN Try.prog (oNil x0) w fun x3 w1 =>
 pN Try.prog (oFld 149 x3 1) w1 fun x4 w2 =>
 pN Try.prog (oFld 147 x4 1) w2 fun x5 w3 =>
 pN Try.prog (oLoad 26 x5) w3 fun x6 w4 =>
 pN Try.prog (oBin .geq 26 (.tmp 6) (.const (.int .u32 16777216)) x6 (.int .u32 16777216)) w4 fun x7 w5 =>
 pIf x7
 (Q (.tuple #[]) w5)
 (∃ I3 : World → Prop,
 (pDr w5 fun w6 =>
 pA Try.prog (oNil x0) fun x9 =>
 pA Try.prog (oFld 149 x9 1) fun x10 =>
 pA Try.prog (oFld 147 x10 0) fun x11 =>
 pL Try.prog (oLoad 3 x11) w6 fun x12 =>
 pA Try.prog (oNil x0) fun x14 =>
 pA Try.prog (oFld 149 x14 0) fun x15 =>
 pL Try.prog (oLoad 29 x15) w6 fun x16 =>
 pA Try.prog (oBi .len #[29] 3 [false] [x16]) fun x17 =>
 pA Try.prog (oBin .eql 3 (.tmp 12) (.tmp 17) x12 x17) fun x18 =>
 pIf x18
 (pN Try.prog (oIface 154 (.int .i64 1)) w6 fun x19 w7 =>
 pN Try.prog (oPanic x19) w7 fun _ w8 =>
 I3 w8)
 (I3 w6)) ∧
 ∀ (_j3 : Env) (w9 : World), I3 w9 →
 pN Try.prog (oNil x0) w9 fun x21 w10 =>
 pN Try.prog (oFld 149 x21 1) w10 fun x22 w11 =>
 pN Try.prog (oFld 147 x22 1) w11 fun x23 w12 =>
 pN Try.prog (oLoad 26 x23) w12 fun x24 w13 =>
 pN Try.prog (oBin .shl 26 (.tmp 24) (.const (.int .u64 8)) x24 (.int .u64 8)) w13 fun x25 w14 =>
 pN Try.prog (oNil x0) w14 fun x26 w15 =>
 pN Try.prog (oFld 149 x26 1) w15 fun x27 w16 =>
 pN Try.prog (oFld 147 x27 1) w16 fun x28 w17 =>
 pN Try.prog (oStore 26 x28 x25) w17 fun _ w18 =>
 pDr w18 fun w19 =>
 pA Try.prog (oNil x0) fun x31 =>
 pA Try.prog (oFld 149 x31 1) fun x32 =>
 pA Try.prog (oFld 147 x32 2) fun x33 =>
 pL Try.prog (oLoad 26 x33) w19 fun x34 =>
 pA Try.prog (oBin .shl 26 (.tmp 34) (.const (.int .u64 8)) x34 (.int .u64 8)) fun x35 =>
 pA Try.prog (oNil x0) fun x37 =>
 pA Try.prog (oFld 149 x37 0) fun x38 =>
 pL Try.prog (oLoad 29 x38) w19 fun x39 =>
 pA Try.prog (oNil x0) fun x41 =>
 pA Try.prog (oFld 149 x41 1) fun x42 =>
 pA Try.prog (oFld 147 x42 0) fun x43 =>
 pL Try.prog (oLoad 3 x43) w19 fun x44 =>
 pA Try.prog (oIdx 29 x39 x44) fun x45 =>
 pL Try.prog (oLoad 5 x45) w19 fun x46 =>
 pL Try.prog (oConv 5 26 x46) w19 fun x47 =>
 pA Try.prog (oBin .or 26 (.tmp 35) (.tmp 47) x35 x47) fun x48 =>
 pA Try.prog (oNil x0) fun x49 =>
 pA Try.prog (oFld 149 x49 1) fun x50 =>
 pA Try.prog (oFld 147 x50 2) fun x51 =>
 pN Try.prog (oStore 26 x51 x48) w19 fun _ w20 =>
 (True) ∧ (pN Try.prog (oNil x0) w20 fun x53 w21 =>
 pN Try.prog (oFld 149 x53 1) w21 fun x54 w22 =>
 pN Try.prog (oFld 147 x54 0) w22 fun x55 w23 =>
 pN Try.prog (oLoad 3 x55) w23 fun x56 w24 =>
 pN Try.prog (oBin .add 3 (.tmp 56) (.const (.int .i64 1)) x56 (.int .i64 1)) w24 fun x57 w25 =>
 pN Try.prog (oNil x0) w25 fun x58 w26 =>
 pN Try.prog (oFld 149 x58 1) w26 fun x59 w27 =>
 pN Try.prog (oFld 147 x59 0) w27 fun x60 w28 =>
 pN Try.prog (oStore 3 x60 x57) w28 fun _ w29 =>
 Q (.tuple #[]) w29))
noncomputable def rcdec_Decoder_widen.c : Code := match Try.f91.body with | some c => c | none => .skip
theorem rcdec_Decoder_widen.eq [Pan] (x0 : Value) (w : World) (Q : Value → World → Prop) : cw Try.prog rcdec_Decoder_widen.H rcdec_Decoder_widen.c (endQ Try.prog Try.f91.results.toList Q) (argsE [x0]) w = rcdec_Decoder_widen.F x0 w Q := by kernel_rfl
theorem rcdec_Decoder_widen.calls [Pan] {x0 : Value} {w : World} {Q : Value → World → Prop} (h : rcdec_Decoder_widen.F x0 w Q) : Calls Try.prog 91 #[x0] w (retP Q) :=
  calls_of_cw (H := rcdec_Decoder_widen.H) (c := rcdec_Decoder_widen.c) (args := [x0]) mixed Try.func91 (by kernel_rfl) (by kernel_rfl) (Nat.le_of_ble_eq_true (by kernel_rfl)) ((rcdec_Decoder_widen.eq x0 w Q).mpr h)

/-! rcdec_Decoder_Bit_c1: (*pith/rcdec.Decoder).Bit$1; temporaries: 0:was 6:was -/
def rcdec_Decoder_Bit_c1.H : Hints := { cut := fun  | _ => none, loop := fun  | _ => ([], 0), order := fun | 1 => [(0, 0), (1, 1), (2, 3), (3, 7), (4, 15)] | _ => [] }
noncomputable def rcdec_Decoder_Bit_c1.c : Code := match Try.f94.body with | some c => c | none => .skip
noncomputable def rcdec_Decoder_Bit_c1.d (rv : Value) : Code := recCode 1 2 rv rcdec_Decoder_Bit_c1.c
def rcdec_Decoder_Bit_c1.F (rv : Value) (x0 : Value) (x1 : Value) (x2 : Value) (x3 : Value) (x4 : Value) (x5 : Value) (w : World) (Q : Value → World → Prop) : Prop :=
 pN Try.prog (oBox 147 x0) w fun x6 w1 =>
 pDr w1 fun w2 =>
 pL Try.prog (oLoad 75 x1) w2 fun x7 =>
 pL Try.prog (oLoad 147 x6) w2 fun x8 =>
 pN Try.prog (oCall 90 [x7, x8, rv]) w2 fun x10 w3 =>
 (True) ∧ (pN Try.prog (oStore 27 x2 x10) w3 fun _ w4 =>
 (True) ∧ (pN Try.prog (oLoad 27 x2) w4 fun x11 w5 =>
 pN Try.prog (oBin .neq 27 (.tmp 11) (.const (.int .i64 0)) x11 (.int .i64 0)) w5 fun x12 w6 =>
 pIf x12
 (pN Try.prog (oStore 3 x3 (.int .i64 0)) w6 fun _ w7 =>
 Q (.tuple #[]) w7)
 (pN Try.prog (oLoad 34 x4) w6 fun x13 w8 =>
 pN Try.prog (oLoad 3 x5) w8 fun x14 w9 =>
 pN Try.prog (oLoad 3 x3) w9 fun x15 w10 =>
 pN Try.prog (oCall 62 [x13, x14, x15]) w10 fun _ w11 =>
 Q (.tuple #[]) w11)))
theorem rcdec_Decoder_Bit_c1.eq (rv : Value) (x0 : Value) (x1 : Value) (x2 : Value) (x3 : Value) (x4 : Value) (x5 : Value) (w : World) (Q : Value → World → Prop) : cw Try.prog rcdec_Decoder_Bit_c1.H (rcdec_Decoder_Bit_c1.d rv) (endQ Try.prog Try.f94.results.toList Q) (argsE [x0, x1, x2, x3, x4, x5]) w = rcdec_Decoder_Bit_c1.F rv x0 x1 x2 x3 x4 x5 w Q := by kernel_rfl
theorem rcdec_Decoder_Bit_c1.panics {rv : Value} {older : List PanicEntry} {x0 : Value} {x1 : Value} {x2 : Value} {x3 : Value} {x4 : Value} {x5 : Value} {w : World} {Q : Value → World → Prop} (h : rcdec_Decoder_Bit_c1.F rv x0 x1 x2 x3 x4 x5 w Q) : CallsD Try.prog 94 #[x0, x1, x2, x3, x4, x5] (.panicking ({ v := rv, recovered := false } :: older)) w fun e u w => u = .panicking ({ v := rv, recovered := true } :: older) ∧ ∃ r, e = .returned r ∧ Q r w :=
  callsD_of_cw (H := rcdec_Decoder_Bit_c1.H) (c := rcdec_Decoder_Bit_c1.c) (c' := rcdec_Decoder_Bit_c1.d rv) (args := [x0, x1, x2, x3, x4, x5]) mixed (Or.inl ⟨older, rfl, rfl⟩) Try.func94 (by kernel_rfl) (rsp_of _ _ _ _ _ (by kernel_rfl)) (by kernel_rfl) (Nat.le_of_ble_eq_true (by kernel_rfl)) ((rcdec_Decoder_Bit_c1.eq rv x0 x1 x2 x3 x4 x5 w Q).mpr h)
theorem rcdec_Decoder_Bit_c1.idles {x0 : Value} {x1 : Value} {x2 : Value} {x3 : Value} {x4 : Value} {x5 : Value} {w : World} {Q : Value → World → Prop} (h : rcdec_Decoder_Bit_c1.F .nilIface x0 x1 x2 x3 x4 x5 w Q) : CallsD Try.prog 94 #[x0, x1, x2, x3, x4, x5] .returning w fun e u w => u = .returning ∧ ∃ r, e = .returned r ∧ Q r w :=
  callsD_of_cw (H := rcdec_Decoder_Bit_c1.H) (c := rcdec_Decoder_Bit_c1.c) (c' := rcdec_Decoder_Bit_c1.d .nilIface) (args := [x0, x1, x2, x3, x4, x5]) mixed (Or.inr ⟨rfl, rfl, rfl⟩) Try.func94 (by kernel_rfl) (rsp_of _ _ _ _ _ (by kernel_rfl)) (by kernel_rfl) (Nat.le_of_ble_eq_true (by kernel_rfl)) ((rcdec_Decoder_Bit_c1.eq .nilIface x0 x1 x2 x3 x4 x5 w Q).mpr h)

/-! rcdec_Decoder_upper: (*pith/rcdec.Decoder).upper; temporaries: 0:d 1:cut 2:d 3:cut -/
def rcdec_Decoder_upper.H : Hints := { cut := fun  | _ => none, loop := fun  | _ => ([], 0), order := fun  | _ => [] }
def rcdec_Decoder_upper.F [Pan] (x0 : Value) (x1 : Value) (w : World) (Q : Value → World → Prop) : Prop :=
 pN Try.prog (oNil x0) w fun x6 w1 =>
 pN Try.prog (oFld 149 x6 1) w1 fun x7 w2 =>
 pN Try.prog (oFld 147 x7 2) w2 fun x8 w3 =>
 pN Try.prog (oLoad 26 x8) w3 fun x9 w4 =>
 pN Try.prog (oBin .lss 26 (.tmp 9) (.tmp 10) x9 x1) w4 fun x11 w5 =>
 pIf x11
 (pN Try.prog (oNil x0) w5 fun x14 w6 =>
 pN Try.prog (oFld 149 x14 1) w6 fun x15 w7 =>
 pN Try.prog (oFld 147 x15 1) w7 fun x16 w8 =>
 pN Try.prog (oStore 26 x16 x1) w8 fun _ w9 =>
 Q (.bool false) w9)
 (pN Try.prog (oNil x0) w5 fun x18 w10 =>
 pN Try.prog (oFld 149 x18 1) w10 fun x19 w11 =>
 pN Try.prog (oFld 147 x19 2) w11 fun x20 w12 =>
 pN Try.prog (oLoad 26 x20) w12 fun x21 w13 =>
 pN Try.prog (oBin .sub 26 (.tmp 21) (.tmp 22) x21 x1) w13 fun x23 w14 =>
 pN Try.prog (oNil x0) w14 fun x24 w15 =>
 pN Try.prog (oFld 149 x24 1) w15 fun x25 w16 =>
 pN Try.prog (oFld 147 x25 2) w16 fun x26 w17 =>
 pN Try.prog (oStore 26 x26 x23) w17 fun _ w18 =>
 pN Try.prog (oNil x0) w18 fun x28 w19 =>
 pN Try.prog (oFld 149 x28 1) w19 fun x29 w20 =>
 pN Try.prog (oFld 147 x29 1) w20 fun x30 w21 =>
 pN Try.prog (oLoad 26 x30) w21 fun x31 w22 =>
 pN Try.prog (oBin .sub 26 (.tmp 31) (.tmp 32) x31 x1) w22 fun x33 w23 =>
 pN Try.prog (oNil x0) w23 fun x34 w24 =>
 pN Try.prog (oFld 149 x34 1) w24 fun x35 w25 =>
 pN Try.prog (oFld 147 x35 1) w25 fun x36 w26 =>
 pN Try.prog (oStore 26 x36 x33) w26 fun _ w27 =>
 Q (.bool true) w27)
noncomputable def rcdec_Decoder_upper.c : Code := match Try.f95.body with | some c => c | none => .skip
theorem rcdec_Decoder_upper.eq [Pan] (x0 : Value) (x1 : Value) (w : World) (Q : Value → World → Prop) : cw Try.prog rcdec_Decoder_upper.H rcdec_Decoder_upper.c (endQ Try.prog Try.f95.results.toList Q) (argsE [x0, x1]) w = rcdec_Decoder_upper.F x0 x1 w Q := by kernel_rfl
theorem rcdec_Decoder_upper.calls [Pan] {x0 : Value} {x1 : Value} {w : World} {Q : Value → World → Prop} (h : rcdec_Decoder_upper.F x0 x1 w Q) : Calls Try.prog 95 #[x0, x1] w (retP Q) :=
  calls_of_cw (H := rcdec_Decoder_upper.H) (c := rcdec_Decoder_upper.c) (args := [x0, x1]) mixed Try.func95 (by kernel_rfl) (by kernel_rfl) (Nat.le_of_ble_eq_true (by kernel_rfl)) ((rcdec_Decoder_upper.eq x0 x1 w Q).mpr h)

end Go.Proofs.Ytoejaggkedlfmaa
