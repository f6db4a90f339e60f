/-
  Printed by a program of mine (lift.py): each function of the seat as a plain proposition over values and worlds; that the program meets it.
-/
import Derived.Test.YtbgnnjfpiblkmaaDoorRows
import Derived.Test.YtbgnnjfpiblkmaaDoorFacts
namespace Go.Proofs.YtbgnnjfpiblkmaaDoor
open Go
set_option linter.unusedSimpArgs false
set_option linter.unnecessarySimpa false
set_option linter.unusedSectionVars false
set_option linter.unusedVariables false
set_option maxRecDepth 100000

/-! window_New: pith/window.New; temporaries: 0:size 1:size -/
def window_New.H : Hints := { cut := fun  | _ => none, loop := fun  | _ => ([], 0), order := fun  | _ => [] }
def window_New.F [Pan] (x0 : Value) (w : World) (Q : Value → World → Prop) : Prop :=
 pN Tryd.prog (oBin .lss 3 (.tmp 4) (.const (.int .i64 1)) x0 (.int .i64 1)) w fun x5 w1 =>
 pGd (gB x5 false) (pN Tryd.prog (oMv x0) w1) w1 fun x7 w2 =>
 pGd (gB x5 false) (pN Tryd.prog (oBin .gtr 3 (.tmp 7) (.const (.int .i64 4294967295)) x7 (.int .i64 4294967295)) w2) w2 fun x8 w3 =>
 pN Tryd.prog (oPick x5 (.bool true) x8) w3 fun x9 w4 =>
 pIf x9
 (Q (.tuple #[(.pointer none), (.int .i64 7)]) w4)
 (pN Tryd.prog (oBuild 74 [(0, x0)]) w4 fun x11 w5 =>
 pN Tryd.prog (oBox 74 x11) w5 fun x12 w6 =>
 Q (.tuple #[x12, (.int .i64 0)]) w6)
noncomputable def window_New.c : Code := match Tryd.f16.body with | some c => c | none => .skip
theorem window_New.eq [Pan] (x0 : Value) (w : World) (Q : Value → World → Prop) : cw Tryd.prog window_New.H window_New.c (endQ Tryd.prog Tryd.f16.results.toList Q) (argsE [x0]) w = window_New.F x0 w Q := by kernel_rfl
theorem window_New.calls [Pan] {x0 : Value} {w : World} {Q : Value → World → Prop} (h : window_New.F x0 w Q) : Calls Tryd.prog 16 #[x0] w (retP Q) :=
  calls_of_cw (H := window_New.H) (c := window_New.c) (args := [x0]) mixed Tryd.func16 (by kernel_rfl) (by kernel_rfl) (Nat.le_of_ble_eq_true (by kernel_rfl)) ((window_New.eq x0 w Q).mpr h)

/-! window_Window_Fork: (*pith/window.Window).Fork; temporaries: 0:w 1:w 3:f -/
def window_Window_Fork.H : Hints := { cut := fun  | _ => none, loop := fun  | _ => ([], 0), order := fun  | _ => [] }
def window_Window_Fork.F [Pan] (x0 : Value) (w : World) (Q : Value → World → Prop) : Prop :=
 pN Tryd.prog (oNil x0) w fun x5 w1 =>
 pN Tryd.prog (oLoad 74 x5) w1 fun x6 w2 =>
 pN Tryd.prog (oAlloc 74) w2 fun x3 w3 =>
 pN Tryd.prog (oStore 74 x3 x6) w3 fun _ w4 =>
 pN Tryd.prog (oBs 38 0 []) w4 fun x7 w5 =>
 pN Tryd.prog (oNil x0) w5 fun x9 w6 =>
 pN Tryd.prog (oFld 74 x9 1) w6 fun x10 w7 =>
 pN Tryd.prog (oLoad 38 x10) w7 fun x11 w8 =>
 pN Tryd.prog (oBi .append #[38, 38] 38 [false, false] [x7, x11]) w8 fun x12 w9 =>
 pN Tryd.prog (oFld 74 x3 1) w9 fun x13 w10 =>
 pN Tryd.prog (oStore 38 x13 x12) w10 fun _ w11 =>
 Q x3 w11
noncomputable def window_Window_Fork.c : Code := match Tryd.f25.body with | some c => c | none => .skip
theorem window_Window_Fork.eq [Pan] (x0 : Value) (w : World) (Q : Value → World → Prop) : cw Tryd.prog window_Window_Fork.H window_Window_Fork.c (endQ Tryd.prog Tryd.f25.results.toList Q) (argsE [x0]) w = window_Window_Fork.F x0 w Q := by kernel_rfl
theorem window_Window_Fork.calls [Pan] {x0 : Value} {w : World} {Q : Value → World → Prop} (h : window_Window_Fork.F x0 w Q) : Calls Tryd.prog 25 #[x0] w (retP Q) :=
  calls_of_cw (H := window_Window_Fork.H) (c := window_Window_Fork.c) (args := [x0]) mixed Tryd.func25 (by kernel_rfl) (by kernel_rfl) (Nat.le_of_ble_eq_true (by kernel_rfl)) ((window_Window_Fork.eq x0 w Q).mpr h)

/-! window_Window_Clear: (*pith/window.Window).Clear; temporaries: 0:w 1:w -/
def window_Window_Clear.H : Hints := { cut := fun  | _ => none, loop := fun  | _ => ([], 0), order := fun  | _ => [] }
def window_Window_Clear.F [Pan] (x0 : Value) (w : World) (Q : Value → World → Prop) : Prop :=
 pN Tryd.prog (oNil x0) w fun x4 w1 =>
 pN Tryd.prog (oFld 74 x4 0) w1 fun x5 w2 =>
 pN Tryd.prog (oLoad 3 x5) w2 fun x6 w3 =>
 pN Tryd.prog (oBuild 74 [(0, x6)]) w3 fun x7 w4 =>
 pN Tryd.prog (oNil x0) w4 fun x8 w5 =>
 pN Tryd.prog (oStore 74 x8 x7) w5 fun _ w6 =>
 Q (.tuple #[]) w6
noncomputable def window_Window_Clear.c : Code := match Tryd.f27.body with | some c => c | none => .skip
theorem window_Window_Clear.eq [Pan] (x0 : Value) (w : World) (Q : Value → World → Prop) : cw Tryd.prog window_Window_Clear.H window_Window_Clear.c (endQ Tryd.prog Tryd.f27.results.toList Q) (argsE [x0]) w = window_Window_Clear.F x0 w Q := by kernel_rfl
theorem window_Window_Clear.calls [Pan] {x0 : Value} {w : World} {Q : Value → World → Prop} (h : window_Window_Clear.F x0 w Q) : Calls Tryd.prog 27 #[x0] w (retP Q) :=
  calls_of_cw (H := window_Window_Clear.H) (c := window_Window_Clear.c) (args := [x0]) mixed Tryd.func27 (by kernel_rfl) (by kernel_rfl) (Nat.le_of_ble_eq_true (by kernel_rfl)) ((window_Window_Clear.eq x0 w Q).mpr h)

/-! window_Window_Last: (*pith/window.Window).Last; temporaries: 0:w 1:dist 2:w 3:dist -/
def window_Window_Last.H : Hints := { cut := fun  | _ => none, loop := fun  | _ => ([], 0), order := fun  | _ => [] }
def window_Window_Last.F [Pan] (x0 : Value) (x1 : Value) (w : World) (Q : Value → World → Prop) : Prop :=
 pN Tryd.prog (oCall 47 [x0, x1]) w fun x8 w1 =>
 pN Tryd.prog (oUn .not x8) w1 fun x9 w2 =>
 pIf x9
 (Q (.tuple #[(bv 0), (.int .i64 7)]) w2)
 (pN Tryd.prog (oCall 48 [x0, x1]) w2 fun x12 w3 =>
 Q (.tuple #[x12, (.int .i64 0)]) w3)
noncomputable def window_Window_Last.c : Code := match Tryd.f32.body with | some c => c | none => .skip
theorem window_Window_Last.eq [Pan] (x0 : Value) (x1 : Value) (w : World) (Q : Value → World → Prop) : cw Tryd.prog window_Window_Last.H window_Window_Last.c (endQ Tryd.prog Tryd.f32.results.toList Q) (argsE [x0, x1]) w = window_Window_Last.F x0 x1 w Q := by kernel_rfl
theorem window_Window_Last.calls [Pan] {x0 : Value} {x1 : Value} {w : World} {Q : Value → World → Prop} (h : window_Window_Last.F x0 x1 w Q) : Calls Tryd.prog 32 #[x0, x1] w (retP Q) :=
  calls_of_cw (H := window_Window_Last.H) (c := window_Window_Last.c) (args := [x0, x1]) mixed Tryd.func32 (by kernel_rfl) (by kernel_rfl) (Nat.le_of_ble_eq_true (by kernel_rfl)) ((window_Window_Last.eq x0 x1 w Q).mpr h)

/-! window_Window_Pos: (*pith/window.Window).Pos; temporaries: 0:w 1:w -/
def window_Window_Pos.H : Hints := { cut := fun  | _ => none, loop := fun  | _ => ([], 0), order := fun  | _ => [] }
def window_Window_Pos.F [Pan] (x0 : Value) (w : World) (Q : Value → World → Prop) : Prop :=
 pN Tryd.prog (oNil x0) w fun x4 w1 =>
 pN Tryd.prog (oFld 74 x4 3) w1 fun x5 w2 =>
 pN Tryd.prog (oLoad 3 x5) w2 fun x6 w3 =>
 Q x6 w3
noncomputable def window_Window_Pos.c : Code := match Tryd.f34.body with | some c => c | none => .skip
theorem window_Window_Pos.eq [Pan] (x0 : Value) (w : World) (Q : Value → World → Prop) : cw Tryd.prog window_Window_Pos.H window_Window_Pos.c (endQ Tryd.prog Tryd.f34.results.toList Q) (argsE [x0]) w = window_Window_Pos.F x0 w Q := by kernel_rfl
theorem window_Window_Pos.calls [Pan] {x0 : Value} {w : World} {Q : Value → World → Prop} (h : window_Window_Pos.F x0 w Q) : Calls Tryd.prog 34 #[x0] w (retP Q) :=
  calls_of_cw (H := window_Window_Pos.H) (c := window_Window_Pos.c) (args := [x0]) mixed Tryd.func34 (by kernel_rfl) (by kernel_rfl) (Nat.le_of_ble_eq_true (by kernel_rfl)) ((window_Window_Pos.eq x0 w Q).mpr h)

/-! window_Window_Put: (*pith/window.Window).Put; temporaries: 0:w 1:b 2:w 3:b 4:grow 5:n -/
def window_Window_Put.H : Hints := { cut := fun | 3 => some ([1], 2147450882) | 8 => some ([1], 295147905177205342226) | 11 => some ([], 9669045373675598575042560) | _ => none, loop := fun | 8 => ([1], 40564819207008192942715149746210) | _ => ([], 0), order := fun | 3 => [(0, 0), (1, 1), (2, 3), (3, 7), (4, 15), (5, 31), (6, 63), (7, 127), (8, 255), (9, 511), (10, 1023), (11, 2047), (12, 4095), (13, 8191)] | 5 => [(0, 0), (1, 1), (2, 3), (3, 7), (4, 15), (5, 31), (6, 63), (7, 127), (8, 255), (9, 511), (10, 1023), (11, 2047)] | 9 => [(0, 0), (1, 1), (2, 3), (3, 7), (4, 15), (5, 31), (6, 63), (7, 127), (8, 255)] | 11 => [(0, 0), (1, 1), (2, 3), (3, 7), (4, 15), (5, 31), (6, 63), (7, 127), (8, 255), (9, 511), (10, 1023), (11, 2047)] | _ => [] }
def window_Window_Put.F [Pan] (x0 : Value) (x1 : Value) (w : World) (Q : Value → World → Prop) : Prop :=
 pN Tryd.prog (oNil x0) w fun x7 w1 =>
 pN Tryd.prog (oFld 74 x7 3) w1 fun x8 w2 =>
 pN Tryd.prog (oLoad 3 x8) w2 fun x9 w3 =>
 pN Tryd.prog (oBi .len #[38] 3 [false] [x1]) w3 fun x11 w4 =>
 pN Tryd.prog (oBin .add 3 (.tmp 9) (.tmp 11) x9 x11) w4 fun x12 w5 =>
 pN Tryd.prog (oNil x0) w5 fun x13 w6 =>
 pN Tryd.prog (oFld 74 x13 3) w6 fun x14 w7 =>
 pN Tryd.prog (oStore 3 x14 x12) w7 fun _ w8 =>
 ∃ I3 : Value → World → Prop,
 (pN Tryd.prog (oBi .len #[38] 3 [false] [x1]) w8 fun x16 w9 =>
 pN Tryd.prog (oNil x0) w9 fun x18 w10 =>
 pN Tryd.prog (oFld 74 x18 0) w10 fun x19 w11 =>
 pN Tryd.prog (oLoad 3 x19) w11 fun x20 w12 =>
 pN Tryd.prog (oBin .gtr 3 (.tmp 16) (.tmp 20) x16 x20) w12 fun x21 w13 =>
 pIf x21
 (pN Tryd.prog (oBi .len #[38] 3 [false] [x1]) w13 fun x24 w14 =>
 pN Tryd.prog (oNil x0) w14 fun x26 w15 =>
 pN Tryd.prog (oFld 74 x26 0) w15 fun x27 w16 =>
 pN Tryd.prog (oLoad 3 x27) w16 fun x28 w17 =>
 pN Tryd.prog (oBin .sub 3 (.tmp 24) (.tmp 28) x24 x28) w17 fun x29 w18 =>
 pN Tryd.prog (oSl 38 x1 (some x29) none none) w18 fun x30 w19 =>
 I3 x30 w19)
 (I3 x1 w13)) ∧
 ∀ (_j3 : Env) (b1c3 : Value) (w20 : World), I3 b1c3 w20 →
 ∃ I8 : Value → World → Prop,
 (pDr w20 fun w21 =>
 pA Tryd.prog (oBi .len #[38] 3 [false] [b1c3]) fun x32 =>
 pA Tryd.prog (oNil x0) fun x34 =>
 pA Tryd.prog (oFld 74 x34 0) fun x35 =>
 pL Tryd.prog (oLoad 3 x35) w21 fun x36 =>
 pA Tryd.prog (oNil x0) fun x38 =>
 pA Tryd.prog (oFld 74 x38 1) fun x39 =>
 pL Tryd.prog (oLoad 38 x39) w21 fun x40 =>
 pA Tryd.prog (oBi .len #[38] 3 [false] [x40]) fun x41 =>
 pA Tryd.prog (oBin .sub 3 (.tmp 36) (.tmp 41) x36 x41) fun x42 =>
 pA Tryd.prog (oBi .min #[3, 3] 3 [false, false] [x32, x42]) fun x43 =>
 pN Tryd.prog (oBin .gtr 3 (.tmp 44) (.const (.int .i64 0)) x43 (.int .i64 0)) w21 fun x45 w22 =>
 pIf x45
 (pDr w22 fun w23 =>
 pA Tryd.prog (oNil x0) fun x48 =>
 pA Tryd.prog (oFld 74 x48 1) fun x49 =>
 pL Tryd.prog (oLoad 38 x49) w23 fun x50 =>
 pA Tryd.prog (oSl 38 b1c3 none (some x43) none) fun x53 =>
 pN Tryd.prog (oBi .append #[38, 38] 38 [false, false] [x50, x53]) w23 fun x54 w24 =>
 (True) ∧ (pA Tryd.prog (oNil x0) fun x55 =>
 pA Tryd.prog (oFld 74 x55 1) fun x56 =>
 pN Tryd.prog (oStore 38 x56 x54) w24 fun _ w25 =>
 (True) ∧ (pN Tryd.prog (oNil x0) w25 fun x59 w26 =>
 pN Tryd.prog (oFld 74 x59 1) w26 fun x60 w27 =>
 pN Tryd.prog (oLoad 38 x60) w27 fun x61 w28 =>
 pN Tryd.prog (oBi .len #[38] 3 [false] [x61]) w28 fun x62 w29 =>
 pN Tryd.prog (oNil x0) w29 fun x63 w30 =>
 pN Tryd.prog (oFld 74 x63 2) w30 fun x64 w31 =>
 pN Tryd.prog (oStore 3 x64 x62) w31 fun _ w32 =>
 pN Tryd.prog (oSl 38 b1c3 (some x43) none none) w32 fun x67 w33 =>
 I8 x67 w33)))
 (I8 b1c3 w22)) ∧
 ∀ (_j8 : Env) (b1c8 : Value) (w34 : World), I8 b1c8 w34 →
 ∃ (L8 : Value → World → Prop) (m8 : Value → World → Nat),
 L8 b1c8 w34 ∧
 ∀ (_k8 : Env) (b1l8 : Value) (w35 : World), L8 b1l8 w35 →
 pN Tryd.prog (oBi .len #[38] 3 [false] [b1l8]) w35 fun x69 w36 =>
 pN Tryd.prog (oBin .gtr 3 (.tmp 69) (.const (.int .i64 0)) x69 (.int .i64 0)) w36 fun x70 w37 =>
 pIf x70
 (∃ I11 : World → Prop,
 (pDr w37 fun w38 =>
 pA Tryd.prog (oNil x0) fun x72 =>
 pA Tryd.prog (oFld 74 x72 2) fun x73 =>
 pL Tryd.prog (oLoad 3 x73) w38 fun x74 =>
 pA Tryd.prog (oNil x0) fun x76 =>
 pA Tryd.prog (oFld 74 x76 0) fun x77 =>
 pL Tryd.prog (oLoad 3 x77) w38 fun x78 =>
 pA Tryd.prog (oBin .eql 3 (.tmp 74) (.tmp 78) x74 x78) fun x79 =>
 pIf x79
 (pN Tryd.prog (oNil x0) w38 fun x81 w39 =>
 pN Tryd.prog (oFld 74 x81 2) w39 fun x82 w40 =>
 pN Tryd.prog (oStore 3 x82 (.int .i64 0)) w40 fun _ w41 =>
 I11 w41)
 (I11 w38)) ∧
 ∀ (_j11 : Env) (w42 : World), I11 w42 →
 pDr w42 fun w43 =>
 pA Tryd.prog (oNil x0) fun x84 =>
 pA Tryd.prog (oFld 74 x84 1) fun x85 =>
 pL Tryd.prog (oLoad 38 x85) w43 fun x86 =>
 pA Tryd.prog (oNil x0) fun x88 =>
 pA Tryd.prog (oFld 74 x88 2) fun x89 =>
 pL Tryd.prog (oLoad 3 x89) w43 fun x90 =>
 pA Tryd.prog (oSl 38 x86 (some x90) none none) fun x91 =>
 pN Tryd.prog (oBi .copy #[38, 38] 3 [false, false] [x91, b1l8]) w43 fun x93 w44 =>
 (True) ∧ (pN Tryd.prog (oNil x0) w44 fun x95 w45 =>
 pN Tryd.prog (oFld 74 x95 2) w45 fun x96 w46 =>
 pN Tryd.prog (oLoad 3 x96) w46 fun x97 w47 =>
 pN Tryd.prog (oBin .add 3 (.tmp 97) (.tmp 98) x97 x93) w47 fun x99 w48 =>
 pN Tryd.prog (oNil x0) w48 fun x100 w49 =>
 pN Tryd.prog (oFld 74 x100 2) w49 fun x101 w50 =>
 pN Tryd.prog (oStore 3 x101 x99) w50 fun _ w51 =>
 pN Tryd.prog (oSl 38 b1l8 (some x93) none none) w51 fun x104 w52 =>
 (L8 x104 w52 ∧ m8 x104 w52 < m8 b1l8 w35)))
 (Q (.tuple #[]) w37)
noncomputable def window_Window_Put.c : Code := match Tryd.f38.body with | some c => c | none => .skip
theorem window_Window_Put.eq [Pan] (x0 : Value) (x1 : Value) (w : World) (Q : Value → World → Prop) : cw Tryd.prog window_Window_Put.H window_Window_Put.c (endQ Tryd.prog Tryd.f38.results.toList Q) (argsE [x0, x1]) w = window_Window_Put.F x0 x1 w Q := by kernel_rfl
theorem window_Window_Put.calls [Pan] {x0 : Value} {x1 : Value} {w : World} {Q : Value → World → Prop} (h : window_Window_Put.F x0 x1 w Q) : Calls Tryd.prog 38 #[x0, x1] w (retP Q) :=
  calls_of_cw (H := window_Window_Put.H) (c := window_Window_Put.c) (args := [x0, x1]) mixed Tryd.func38 (by kernel_rfl) (by kernel_rfl) (Nat.le_of_ble_eq_true (by kernel_rfl)) ((window_Window_Put.eq x0 x1 w Q).mpr h)

/-! window_Window_Copy: (*pith/window.Window).Copy; temporaries: 0:w 1:dist 2:n 3:w 4:dist 5:n 8:b 9:c -/
def window_Window_Copy.H : Hints := { cut := fun  | _ => none, loop := fun | 5 => ([8, 25], 549722260224) | _ => ([], 0), order := fun  | _ => [] }
def window_Window_Copy.F [Pan] (x0 : Value) (x1 : Value) (x2 : Value) (w : World) (Q : Value → World → Prop) : Prop :=
 pN Tryd.prog (oCall 47 [x0, x1]) w fun x12 w1 =>
 pN Tryd.prog (oUn .not x12) w1 fun x13 w2 =>
 pGd (gB x13 false) (pN Tryd.prog (oMv x2) w2) w2 fun x15 w3 =>
 pGd (gB x13 false) (pN Tryd.prog (oBin .lss 3 (.tmp 15) (.const (.int .i64 0)) x15 (.int .i64 0)) w3) w3 fun x16 w4 =>
 pN Tryd.prog (oPick x13 (.bool true) x16) w4 fun x17 w5 =>
 pGd (gB x17 false) (pN Tryd.prog (oMv x2) w5) w5 fun x19 w6 =>
 pGd (gB x17 false) (pN Tryd.prog (oBin .gtr 3 (.tmp 19) (.const (.int .i64 273)) x19 (.int .i64 273)) w6) w6 fun x20 w7 =>
 pN Tryd.prog (oPick x17 (.bool true) x20) w7 fun x21 w8 =>
 pIf x21
 (Q (.tuple #[(.slice none 0 0), (.int .i64 7)]) w8)
 (pN Tryd.prog (oMk 38 (.int .i64 0) x2) w8 fun x23 w9 =>
 ∃ (L5 : Value → Value → World → Prop) (m5 : Value → Value → World → Nat),
 L5 x23 (.int .i64 0) w9 ∧
 ∀ (_k5 : Env) (b8l5 : Value) (v25l5 : Value) (w10 : World), L5 b8l5 v25l5 w10 →
 pN Tryd.prog (oBin .lss 3 (.tmp 25) (.tmp 24) v25l5 x2) w10 fun x26 w11 =>
 pIf x26
 (pN Tryd.prog (oCall 48 [x0, x1]) w11 fun x29 w12 =>
 pN Tryd.prog (oBs 38 1 [(0, x29)]) w12 fun x32 w13 =>
 pN Tryd.prog (oCall 38 [x0, x32]) w13 fun _ w14 =>
 pN Tryd.prog (oBs 38 1 [(0, x29)]) w14 fun x36 w15 =>
 pN Tryd.prog (oBi .append #[38, 38] 38 [false, false] [b8l5, x36]) w15 fun x37 w16 =>
 pN Tryd.prog (oBin .add 3 (.tmp 25) (.const (.int .i64 1)) v25l5 (.int .i64 1)) w16 fun x38 w17 =>
 (L5 x37 x38 w17 ∧ m5 x37 x38 w17 < m5 b8l5 v25l5 w10))
 (Q (.tuple #[b8l5, (.int .i64 0)]) w11))
noncomputable def window_Window_Copy.c : Code := match Tryd.f39.body with | some c => c | none => .skip
theorem window_Window_Copy.eq [Pan] (x0 : Value) (x1 : Value) (x2 : Value) (w : World) (Q : Value → World → Prop) : cw Tryd.prog window_Window_Copy.H window_Window_Copy.c (endQ Tryd.prog Tryd.f39.results.toList Q) (argsE [x0, x1, x2]) w = window_Window_Copy.F x0 x1 x2 w Q := by kernel_rfl
theorem window_Window_Copy.calls [Pan] {x0 : Value} {x1 : Value} {x2 : Value} {w : World} {Q : Value → World → Prop} (h : window_Window_Copy.F x0 x1 x2 w Q) : Calls Tryd.prog 39 #[x0, x1, x2] w (retP Q) :=
  calls_of_cw (H := window_Window_Copy.H) (c := window_Window_Copy.c) (args := [x0, x1, x2]) mixed Tryd.func39 (by kernel_rfl) (by kernel_rfl) (Nat.le_of_ble_eq_true (by kernel_rfl)) ((window_Window_Copy.eq x0 x1 x2 w Q).mpr h)

/-! window_Window_in: (*pith/window.Window).in; temporaries: 0:w 1:dist 2:w 3:dist -/
def window_Window_in.H : Hints := { cut := fun  | _ => none, loop := fun  | _ => ([], 0), order := fun  | _ => [] }
def window_Window_in.F [Pan] (x0 : Value) (x1 : Value) (w : World) (Q : Value → World → Prop) : Prop :=
 pN Tryd.prog (oBin .geq 3 (.tmp 5) (.const (.int .i64 1)) x1 (.int .i64 1)) w fun x6 w1 =>
 pGd (gB x6 true) (pN Tryd.prog (oMv x1) w1) w1 fun x8 w2 =>
 pGd (gB x6 true) (pN Tryd.prog (oMv x0) w2) w2 fun x9 w3 =>
 pGd (gB x6 true) (pN Tryd.prog (oNil x9) w3) w3 fun x10 w4 =>
 pGd (gB x6 true) (pN Tryd.prog (oFld 74 x10 1) w4) w4 fun x11 w5 =>
 pGd (gB x6 true) (pN Tryd.prog (oLoad 38 x11) w5) w5 fun x12 w6 =>
 pGd (gB x6 true) (pN Tryd.prog (oBi .len #[38] 3 [false] [x12]) w6) w6 fun x13 w7 =>
 pGd (gB x6 true) (pN Tryd.prog (oBin .leq 3 (.tmp 8) (.tmp 13) x8 x13) w7) w7 fun x14 w8 =>
 pN Tryd.prog (oPick x6 x14 (.bool false)) w8 fun x15 w9 =>
 Q x15 w9
noncomputable def window_Window_in.c : Code := match Tryd.f47.body with | some c => c | none => .skip
theorem window_Window_in.eq [Pan] (x0 : Value) (x1 : Value) (w : World) (Q : Value → World → Prop) : cw Tryd.prog window_Window_in.H window_Window_in.c (endQ Tryd.prog Tryd.f47.results.toList Q) (argsE [x0, x1]) w = window_Window_in.F x0 x1 w Q := by kernel_rfl
theorem window_Window_in.calls [Pan] {x0 : Value} {x1 : Value} {w : World} {Q : Value → World → Prop} (h : window_Window_in.F x0 x1 w Q) : Calls Tryd.prog 47 #[x0, x1] w (retP Q) :=
  calls_of_cw (H := window_Window_in.H) (c := window_Window_in.c) (args := [x0, x1]) mixed Tryd.func47 (by kernel_rfl) (by kernel_rfl) (Nat.le_of_ble_eq_true (by kernel_rfl)) ((window_Window_in.eq x0 x1 w Q).mpr h)

/-! window_Window_back: (*pith/window.Window).back; temporaries: 0:w 1:dist 2:w 3:dist 5:i -/
def window_Window_back.H : Hints := { cut := fun | 4 => some ([5], 2093088) | _ => none, loop := fun  | _ => ([], 0), order := fun  | _ => [] }
def window_Window_back.F [Pan] (x0 : Value) (x1 : Value) (w : World) (Q : Value → World → Prop) : Prop :=
 pN Tryd.prog (oNil x0) w fun x7 w1 =>
 pN Tryd.prog (oFld 74 x7 2) w1 fun x8 w2 =>
 pN Tryd.prog (oLoad 3 x8) w2 fun x9 w3 =>
 pN Tryd.prog (oBin .sub 3 (.tmp 9) (.tmp 10) x9 x1) w3 fun x11 w4 =>
 ∃ I4 : Value → World → Prop,
 (pN Tryd.prog (oBin .lss 3 (.tmp 12) (.const (.int .i64 0)) x11 (.int .i64 0)) w4 fun x13 w5 =>
 pIf x13
 (pN Tryd.prog (oNil x0) w5 fun x16 w6 =>
 pN Tryd.prog (oFld 74 x16 1) w6 fun x17 w7 =>
 pN Tryd.prog (oLoad 38 x17) w7 fun x18 w8 =>
 pN Tryd.prog (oBi .len #[38] 3 [false] [x18]) w8 fun x19 w9 =>
 pN Tryd.prog (oBin .add 3 (.tmp 14) (.tmp 19) x11 x19) w9 fun x20 w10 =>
 I4 x20 w10)
 (I4 x11 w5)) ∧
 ∀ (_j4 : Env) (i5c4 : Value) (w11 : World), I4 i5c4 w11 →
 pN Tryd.prog (oNil x0) w11 fun x22 w12 =>
 pN Tryd.prog (oFld 74 x22 1) w12 fun x23 w13 =>
 pN Tryd.prog (oLoad 38 x23) w13 fun x24 w14 =>
 pN Tryd.prog (oIdx 38 x24 i5c4) w14 fun x26 w15 =>
 pN Tryd.prog (oLoad 5 x26) w15 fun x27 w16 =>
 Q x27 w16
noncomputable def window_Window_back.c : Code := match Tryd.f48.body with | some c => c | none => .skip
theorem window_Window_back.eq [Pan] (x0 : Value) (x1 : Value) (w : World) (Q : Value → World → Prop) : cw Tryd.prog window_Window_back.H window_Window_back.c (endQ Tryd.prog Tryd.f48.results.toList Q) (argsE [x0, x1]) w = window_Window_back.F x0 x1 w Q := by kernel_rfl
theorem window_Window_back.calls [Pan] {x0 : Value} {x1 : Value} {w : World} {Q : Value → World → Prop} (h : window_Window_back.F x0 x1 w Q) : Calls Tryd.prog 48 #[x0, x1] w (retP Q) :=
  calls_of_cw (H := window_Window_back.H) (c := window_Window_back.c) (args := [x0, x1]) mixed Tryd.func48 (by kernel_rfl) (by kernel_rfl) (Nat.le_of_ble_eq_true (by kernel_rfl)) ((window_Window_back.eq x0 x1 w Q).mpr h)

end Go.Proofs.YtbgnnjfpiblkmaaDoor
