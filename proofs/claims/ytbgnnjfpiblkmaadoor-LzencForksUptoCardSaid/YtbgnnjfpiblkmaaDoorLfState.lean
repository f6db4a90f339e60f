/-
  Printed by a program of mine (lift.py): each function of the seat as a plain proposition over values and worlds; that the program meets it.
-/
import Derived.Test.YtbgnnjfpiblkmaaDoorRows
import Derived.Test.YtbgnnjfpiblkmaaDoorFacts
namespace Go.Proofs.YtbgnnjfpiblkmaaDoor
open Go
set_option linter.unusedSimpArgs false
set_option linter.unnecessarySimpa false
set_option linter.unusedSectionVars false
set_option linter.unusedVariables false
set_option maxRecDepth 100000

/-! state_PropsByte: pith/state.PropsByte; temporaries: 0:p 1:p -/
def state_PropsByte.H : Hints := { cut := fun  | _ => none, loop := fun  | _ => ([], 0), order := fun  | _ => [] }
def state_PropsByte.F [Pan] (x0 : Value) (w : World) (Q : Value → World → Prop) : Prop :=
 pN Tryd.prog (oBox 23 x0) w fun x1 w1 =>
 pN Tryd.prog (oFld 23 x1 0) w1 fun x4 w2 =>
 pN Tryd.prog (oLoad 3 x4) w2 fun x5 w3 =>
 pN Tryd.prog (oBin .lss 3 (.tmp 5) (.const (.int .i64 0)) x5 (.int .i64 0)) w3 fun x6 w4 =>
 pGd (gB x6 false) (pN Tryd.prog (oFld 23 x1 1) w4) w4 fun x8 w5 =>
 pGd (gB x6 false) (pN Tryd.prog (oLoad 3 x8) w5) w5 fun x9 w6 =>
 pGd (gB x6 false) (pN Tryd.prog (oBin .lss 3 (.tmp 9) (.const (.int .i64 0)) x9 (.int .i64 0)) w6) w6 fun x10 w7 =>
 pN Tryd.prog (oPick x6 (.bool true) x10) w7 fun x11 w8 =>
 pGd (gB x11 false) (pN Tryd.prog (oFld 23 x1 2) w8) w8 fun x13 w9 =>
 pGd (gB x11 false) (pN Tryd.prog (oLoad 3 x13) w9) w9 fun x14 w10 =>
 pGd (gB x11 false) (pN Tryd.prog (oBin .lss 3 (.tmp 14) (.const (.int .i64 0)) x14 (.int .i64 0)) w10) w10 fun x15 w11 =>
 pN Tryd.prog (oPick x11 (.bool true) x15) w11 fun x16 w12 =>
 pGd (gB x16 false) (pN Tryd.prog (oFld 23 x1 2) w12) w12 fun x18 w13 =>
 pGd (gB x16 false) (pN Tryd.prog (oLoad 3 x18) w13) w13 fun x19 w14 =>
 pGd (gB x16 false) (pN Tryd.prog (oBin .gtr 3 (.tmp 19) (.const (.int .i64 4)) x19 (.int .i64 4)) w14) w14 fun x20 w15 =>
 pN Tryd.prog (oPick x16 (.bool true) x20) w15 fun x21 w16 =>
 pGd (gB x21 false) (pN Tryd.prog (oFld 23 x1 0) w16) w16 fun x23 w17 =>
 pGd (gB x21 false) (pN Tryd.prog (oLoad 3 x23) w17) w17 fun x24 w18 =>
 pGd (gB x21 false) (pN Tryd.prog (oBin .gtr 3 (.tmp 24) (.const (.int .i64 4)) x24 (.int .i64 4)) w18) w18 fun x25 w19 =>
 pN Tryd.prog (oPick x21 (.bool true) x25) w19 fun x26 w20 =>
 pGd (gB x26 false) (pN Tryd.prog (oFld 23 x1 1) w20) w20 fun x28 w21 =>
 pGd (gB x26 false) (pN Tryd.prog (oLoad 3 x28) w21) w21 fun x29 w22 =>
 pGd (gB x26 false) (pN Tryd.prog (oFld 23 x1 0) w22) w22 fun x30 w23 =>
 pGd (gB x26 false) (pN Tryd.prog (oLoad 3 x30) w23) w23 fun x31 w24 =>
 pGd (gB x26 false) (pN Tryd.prog (oBin .sub 3 (.const (.int .i64 4)) (.tmp 31) (.int .i64 4) x31) w24) w24 fun x32 w25 =>
 pGd (gB x26 false) (pN Tryd.prog (oBin .gtr 3 (.tmp 29) (.tmp 32) x29 x32) w25) w25 fun x33 w26 =>
 pN Tryd.prog (oPick x26 (.bool true) x33) w26 fun x34 w27 =>
 pIf x34
 (Q (.tuple #[(.int .i64 0), (.int .i64 6)]) w27)
 (pN Tryd.prog (oFld 23 x1 2) w27 fun x35 w28 =>
 pN Tryd.prog (oLoad 3 x35) w28 fun x36 w29 =>
 pN Tryd.prog (oBin .mul 3 (.tmp 36) (.const (.int .i64 5)) x36 (.int .i64 5)) w29 fun x37 w30 =>
 pN Tryd.prog (oFld 23 x1 1) w30 fun x38 w31 =>
 pN Tryd.prog (oLoad 3 x38) w31 fun x39 w32 =>
 pN Tryd.prog (oBin .add 3 (.tmp 37) (.tmp 39) x37 x39) w32 fun x40 w33 =>
 pN Tryd.prog (oBin .mul 3 (.tmp 40) (.const (.int .i64 9)) x40 (.int .i64 9)) w33 fun x41 w34 =>
 pN Tryd.prog (oFld 23 x1 0) w34 fun x42 w35 =>
 pN Tryd.prog (oLoad 3 x42) w35 fun x43 w36 =>
 pN Tryd.prog (oBin .add 3 (.tmp 41) (.tmp 43) x41 x43) w36 fun x44 w37 =>
 Q (.tuple #[x44, (.int .i64 0)]) w37)
noncomputable def state_PropsByte.c : Code := match Tryd.f15.body with | some c => c | none => .skip
theorem state_PropsByte.eq [Pan] (x0 : Value) (w : World) (Q : Value → World → Prop) : cw Tryd.prog state_PropsByte.H state_PropsByte.c (endQ Tryd.prog Tryd.f15.results.toList Q) (argsE [x0]) w = state_PropsByte.F x0 w Q := by kernel_rfl
theorem state_PropsByte.calls [Pan] {x0 : Value} {w : World} {Q : Value → World → Prop} (h : state_PropsByte.F x0 w Q) : Calls Tryd.prog 15 #[x0] w (retP Q) :=
  calls_of_cw (H := state_PropsByte.H) (c := state_PropsByte.c) (args := [x0]) mixed Tryd.func15 (by kernel_rfl) (by kernel_rfl) (Nat.le_of_ble_eq_true (by kernel_rfl)) ((state_PropsByte.eq x0 w Q).mpr h)

/-! state_New: pith/state.New; temporaries:  -/
def state_New.H : Hints := { cut := fun  | _ => none, loop := fun  | _ => ([], 0), order := fun  | _ => [] }
def state_New.F [Pan]  (w : World) (Q : Value → World → Prop) : Prop :=
 pN Tryd.prog (oAlloc 60) w fun x0 w1 =>
 pN Tryd.prog (oBuild 58 [(0, (.int .i64 1)), (1, (.int .i64 1)), (2, (.int .i64 1)), (3, (.int .i64 1))]) w1 fun x1 w2 =>
 pN Tryd.prog (oBuild 60 [(1, x1)]) w2 fun x2 w3 =>
 pN Tryd.prog (oStore 60 x0 x2) w3 fun _ w4 =>
 pL Tryd.prog (oRes 60 x0) w4 fun r0 =>
 Q r0 w4
noncomputable def state_New.c : Code := match Tryd.f28.body with | some c => c | none => .skip
theorem state_New.eq [Pan]  (w : World) (Q : Value → World → Prop) : cw Tryd.prog state_New.H state_New.c (endQ Tryd.prog Tryd.f28.results.toList Q) (argsE []) w = state_New.F  w Q := by kernel_rfl
theorem state_New.calls [Pan]  {w : World} {Q : Value → World → Prop} (h : state_New.F  w Q) : Calls Tryd.prog 28 #[] w (retP Q) :=
  calls_of_cw (H := state_New.H) (c := state_New.c) (args := []) mixed Tryd.func28 (by kernel_rfl) (by kernel_rfl) (Nat.le_of_ble_eq_true (by kernel_rfl)) ((state_New.eq  w Q).mpr h)

/-! state_State_Next: (pith/state.State).Next; temporaries: 0:s 1:y 2:s 3:y 6:d -/
def state_State_Next.H : Hints := { cut := fun | 21 => some ([], 79228162514264337593543948384) | _ => none, loop := fun  | _ => ([], 0), order := fun | 19 => [(0, 0), (1, 1), (2, 3), (3, 7), (4, 15), (5, 31), (6, 63)] | _ => [] }
def state_State_Next.F [Pan] (x0 : Value) (x1 : Value) (w : World) (Q : Value → World → Prop) : Prop :=
 pN Tryd.prog (oBox 60 x0) w fun x2 w1 =>
 pN Tryd.prog (oBox 34 x1) w1 fun x3 w2 =>
 pN Tryd.prog (oAlloc 60) w2 fun x4 w3 =>
 pN Tryd.prog (oLoad 60 x2) w3 fun x7 w4 =>
 pN Tryd.prog (oCall 44 [x7]) w4 fun x8 w5 =>
 pN Tryd.prog (oUn .not x8) w5 fun x9 w6 =>
 pIf x9
 (pN Tryd.prog (oBuild 60 []) w6 fun x10 w7 =>
 pN Tryd.prog (oStore 60 x4 x10) w7 fun _ w8 =>
 pL Tryd.prog (oRes 60 x4) w8 fun r4 =>
 Q (.tuple #[r4, (.int .i64 7)]) w8)
 (∃ I21 : World → Prop,
 (pN Tryd.prog (oFld 34 x3 0) w6 fun x11 w9 =>
 pN Tryd.prog (oLoad 3 x11) w9 fun x12 w10 =>
 pN Tryd.prog (oBin .eql 3 (.tmp 12) (.const (.int .i64 1)) x12 (.int .i64 1)) w10 fun x15 w11 =>
 pIf x15
 (pN Tryd.prog (oFld 60 x2 0) w11 fun x16 w12 =>
 pN Tryd.prog (oLoad 3 x16) w12 fun x17 w13 =>
 pN Tryd.prog (oIdx 100 (.pointer (some ⟨0, 0, none⟩)) x17) w13 fun x18 w14 =>
 pN Tryd.prog (oLoad 3 x18) w14 fun x19 w15 =>
 pN Tryd.prog (oFld 60 x2 0) w15 fun x20 w16 =>
 pN Tryd.prog (oStore 3 x20 x19) w16 fun _ w17 =>
 I21 w17)
 (pN Tryd.prog (oBin .eql 3 (.tmp 12) (.const (.int .i64 4)) x12 (.int .i64 4)) w11 fun x22 w18 =>
 pIf x22
 (pN Tryd.prog (oFld 60 x2 0) w18 fun x23 w19 =>
 pN Tryd.prog (oLoad 3 x23) w19 fun x24 w20 =>
 pN Tryd.prog (oIdx 100 (.pointer (some ⟨1, 0, none⟩)) x24) w20 fun x25 w21 =>
 pN Tryd.prog (oLoad 3 x25) w21 fun x26 w22 =>
 pN Tryd.prog (oFld 60 x2 0) w22 fun x27 w23 =>
 pN Tryd.prog (oStore 3 x27 x26) w23 fun _ w24 =>
 I21 w24)
 (pN Tryd.prog (oBin .eql 3 (.tmp 12) (.const (.int .i64 2)) x12 (.int .i64 2)) w18 fun x29 w25 =>
 pIf x29
 (pN Tryd.prog (oFld 34 x3 2) w25 fun x30 w26 =>
 pN Tryd.prog (oLoad 3 x30) w26 fun x31 w27 =>
 pN Tryd.prog (oCall 45 [x31]) w27 fun x32 w28 =>
 pN Tryd.prog (oUn .not x32) w28 fun x33 w29 =>
 pGd (gB x33 false) (pN Tryd.prog (oFld 34 x3 3) w29) w29 fun x35 w30 =>
 pGd (gB x33 false) (pN Tryd.prog (oLoad 3 x35) w30) w30 fun x36 w31 =>
 pGd (gB x33 false) (pN Tryd.prog (oCall 46 [x36]) w31) w31 fun x37 w32 =>
 pGd (gB x33 false) (pN Tryd.prog (oUn .not x37) w32) w32 fun x38 w33 =>
 pN Tryd.prog (oPick x33 (.bool true) x38) w33 fun x39 w34 =>
 pIf x39
 (pN Tryd.prog (oBuild 60 []) w34 fun x40 w35 =>
 pN Tryd.prog (oStore 60 x4 x40) w35 fun _ w36 =>
 pL Tryd.prog (oRes 60 x4) w36 fun r4 =>
 Q (.tuple #[r4, (.int .i64 7)]) w36)
 (pN Tryd.prog (oFld 60 x2 0) w34 fun x41 w37 =>
 pN Tryd.prog (oLoad 3 x41) w37 fun x42 w38 =>
 pN Tryd.prog (oIdx 100 (.pointer (some ⟨2, 0, none⟩)) x42) w38 fun x43 w39 =>
 pN Tryd.prog (oLoad 3 x43) w39 fun x44 w40 =>
 pN Tryd.prog (oFld 60 x2 0) w40 fun x45 w41 =>
 pN Tryd.prog (oStore 3 x45 x44) w41 fun _ w42 =>
 pN Tryd.prog (oFld 34 x3 3) w42 fun x46 w43 =>
 pN Tryd.prog (oLoad 3 x46) w43 fun x47 w44 =>
 pN Tryd.prog (oFld 60 x2 1) w44 fun x48 w45 =>
 pN Tryd.prog (oIdx 58 x48 (.int .i64 0)) w45 fun x49 w46 =>
 pN Tryd.prog (oLoad 3 x49) w46 fun x50 w47 =>
 pN Tryd.prog (oFld 60 x2 1) w47 fun x51 w48 =>
 pN Tryd.prog (oIdx 58 x51 (.int .i64 1)) w48 fun x52 w49 =>
 pN Tryd.prog (oLoad 3 x52) w49 fun x53 w50 =>
 pN Tryd.prog (oFld 60 x2 1) w50 fun x54 w51 =>
 pN Tryd.prog (oIdx 58 x54 (.int .i64 2)) w51 fun x55 w52 =>
 pN Tryd.prog (oLoad 3 x55) w52 fun x56 w53 =>
 pN Tryd.prog (oBuild 58 [(0, x47), (1, x50), (2, x53), (3, x56)]) w53 fun x57 w54 =>
 pN Tryd.prog (oFld 60 x2 1) w54 fun x58 w55 =>
 pN Tryd.prog (oStore 58 x58 x57) w55 fun _ w56 =>
 I21 w56))
 (pN Tryd.prog (oBin .eql 3 (.tmp 12) (.const (.int .i64 3)) x12 (.int .i64 3)) w25 fun x60 w57 =>
 pIf x60
 (pN Tryd.prog (oFld 34 x3 2) w57 fun x61 w58 =>
 pN Tryd.prog (oLoad 3 x61) w58 fun x62 w59 =>
 pN Tryd.prog (oCall 45 [x62]) w59 fun x63 w60 =>
 pN Tryd.prog (oUn .not x63) w60 fun x64 w61 =>
 pGd (gB x64 false) (pN Tryd.prog (oFld 34 x3 3) w61) w61 fun x66 w62 =>
 pGd (gB x64 false) (pN Tryd.prog (oLoad 3 x66) w62) w62 fun x67 w63 =>
 pGd (gB x64 false) (pN Tryd.prog (oBin .lss 3 (.tmp 67) (.const (.int .i64 0)) x67 (.int .i64 0)) w63) w63 fun x68 w64 =>
 pN Tryd.prog (oPick x64 (.bool true) x68) w64 fun x69 w65 =>
 pGd (gB x69 false) (pN Tryd.prog (oFld 34 x3 3) w65) w65 fun x71 w66 =>
 pGd (gB x69 false) (pN Tryd.prog (oLoad 3 x71) w66) w66 fun x72 w67 =>
 pGd (gB x69 false) (pN Tryd.prog (oBin .gtr 3 (.tmp 72) (.const (.int .i64 3)) x72 (.int .i64 3)) w67) w67 fun x73 w68 =>
 pN Tryd.prog (oPick x69 (.bool true) x73) w68 fun x74 w69 =>
 pIf x74
 (pN Tryd.prog (oBuild 60 []) w69 fun x75 w70 =>
 pN Tryd.prog (oStore 60 x4 x75) w70 fun _ w71 =>
 pL Tryd.prog (oRes 60 x4) w71 fun r4 =>
 Q (.tuple #[r4, (.int .i64 7)]) w71)
 (pN Tryd.prog (oFld 60 x2 0) w69 fun x76 w72 =>
 pN Tryd.prog (oLoad 3 x76) w72 fun x77 w73 =>
 pN Tryd.prog (oIdx 100 (.pointer (some ⟨3, 0, none⟩)) x77) w73 fun x78 w74 =>
 pN Tryd.prog (oLoad 3 x78) w74 fun x79 w75 =>
 pN Tryd.prog (oFld 60 x2 0) w75 fun x80 w76 =>
 pN Tryd.prog (oStore 3 x80 x79) w76 fun _ w77 =>
 pN Tryd.prog (oFld 34 x3 3) w77 fun x81 w78 =>
 pN Tryd.prog (oLoad 3 x81) w78 fun x82 w79 =>
 pN Tryd.prog (oFld 60 x2 1) w79 fun x83 w80 =>
 pN Tryd.prog (oIdx 58 x83 x82) w80 fun x84 w81 =>
 pN Tryd.prog (oLoad 3 x84) w81 fun x85 w82 =>
 pDr w82 fun w83 =>
 pA Tryd.prog (oFld 60 x2 1) fun x86 =>
 pA Tryd.prog (oSl 58 x86 (some (.int .i64 1)) none none) fun x87 =>
 pA Tryd.prog (oFld 60 x2 1) fun x88 =>
 pA Tryd.prog (oFld 34 x3 3) fun x89 =>
 pL Tryd.prog (oLoad 3 x89) w83 fun x90 =>
 pA Tryd.prog (oSl 58 x88 none (some x90) none) fun x91 =>
 pN Tryd.prog (oBi .copy #[102, 102] 3 [false, false] [x87, x91]) w83 fun _ w84 =>
 (True) ∧ (pN Tryd.prog (oFld 60 x2 1) w84 fun x94 w85 =>
 pN Tryd.prog (oIdx 58 x94 (.int .i64 0)) w85 fun x95 w86 =>
 pN Tryd.prog (oStore 3 x95 x85) w86 fun _ w87 =>
 I21 w87)))
 (pN Tryd.prog (oBuild 60 []) w57 fun x13 w88 =>
 pN Tryd.prog (oStore 60 x4 x13) w88 fun _ w89 =>
 pL Tryd.prog (oRes 60 x4) w89 fun r4 =>
 Q (.tuple #[r4, (.int .i64 6)]) w89))))) ∧
 ∀ (_j21 : Env) (w90 : World), I21 w90 →
 pN Tryd.prog (oLoad 60 x2) w90 fun x96 w91 =>
 pN Tryd.prog (oStore 60 x4 x96) w91 fun _ w92 =>
 pL Tryd.prog (oRes 60 x4) w92 fun r4 =>
 Q (.tuple #[r4, (.int .i64 0)]) w92)
noncomputable def state_State_Next.c : Code := match Tryd.f31.body with | some c => c | none => .skip
theorem state_State_Next.eq [Pan] (x0 : Value) (x1 : Value) (w : World) (Q : Value → World → Prop) : cw Tryd.prog state_State_Next.H state_State_Next.c (endQ Tryd.prog Tryd.f31.results.toList Q) (argsE [x0, x1]) w = state_State_Next.F x0 x1 w Q := by kernel_rfl
theorem state_State_Next.calls [Pan] {x0 : Value} {x1 : Value} {w : World} {Q : Value → World → Prop} (h : state_State_Next.F x0 x1 w Q) : Calls Tryd.prog 31 #[x0, x1] w (retP Q) :=
  calls_of_cw (H := state_State_Next.H) (c := state_State_Next.c) (args := [x0, x1]) mixed Tryd.func31 (by kernel_rfl) (by kernel_rfl) (Nat.le_of_ble_eq_true (by kernel_rfl)) ((state_State_Next.eq x0 x1 w Q).mpr h)

/-! state_State_right: (pith/state.State).right; temporaries: 0:s 1:s 3:_ 4:d -/
def state_State_right.H : Hints := { cut := fun  | _ => none, loop := fun | 2 => ([7], 16276) | _ => ([], 0), order := fun  | _ => [] }
def state_State_right.F [Pan] (x0 : Value) (w : World) (Q : Value → World → Prop) : Prop :=
 pN Tryd.prog (oBox 60 x0) w fun x1 w1 =>
 pN Tryd.prog (oFld 60 x1 1) w1 fun x5 w2 =>
 pN Tryd.prog (oLoad 58 x5) w2 fun x6 w3 =>
 ∃ (L2 : Value → World → Prop) (m2 : Value → World → Nat),
 L2 (.int .i64 0) w3 ∧
 ∀ (_k2 : Env) (v7l2 : Value) (w4 : World), L2 v7l2 w4 →
 pN Tryd.prog (oBin .lss 3 (.tmp 7) (.const (.int .i64 4)) v7l2 (.int .i64 4)) w4 fun x8 w5 =>
 pIf x8
 (pN Tryd.prog (oIndex 58 x6 v7l2) w5 fun x9 w6 =>
 pN Tryd.prog (oCall 46 [x9]) w6 fun x11 w7 =>
 pN Tryd.prog (oUn .not x11) w7 fun x12 w8 =>
 pIf x12
 (Q (.bool false) w8)
 (pN Tryd.prog (oBin .add 3 (.tmp 7) (.const (.int .i64 1)) v7l2 (.int .i64 1)) w8 fun x13 w9 =>
 (L2 x13 w9 ∧ m2 x13 w9 < m2 v7l2 w4)))
 (pN Tryd.prog (oFld 60 x1 0) w5 fun x14 w10 =>
 pN Tryd.prog (oLoad 3 x14) w10 fun x15 w11 =>
 pN Tryd.prog (oBin .geq 3 (.tmp 15) (.const (.int .i64 0)) x15 (.int .i64 0)) w11 fun x16 w12 =>
 pGd (gB x16 true) (pN Tryd.prog (oFld 60 x1 0) w12) w12 fun x18 w13 =>
 pGd (gB x16 true) (pN Tryd.prog (oLoad 3 x18) w13) w13 fun x19 w14 =>
 pGd (gB x16 true) (pN Tryd.prog (oBin .lss 3 (.tmp 19) (.const (.int .i64 12)) x19 (.int .i64 12)) w14) w14 fun x20 w15 =>
 pN Tryd.prog (oPick x16 x20 (.bool false)) w15 fun x21 w16 =>
 Q x21 w16)
noncomputable def state_State_right.c : Code := match Tryd.f44.body with | some c => c | none => .skip
theorem state_State_right.eq [Pan] (x0 : Value) (w : World) (Q : Value → World → Prop) : cw Tryd.prog state_State_right.H state_State_right.c (endQ Tryd.prog Tryd.f44.results.toList Q) (argsE [x0]) w = state_State_right.F x0 w Q := by kernel_rfl
theorem state_State_right.calls [Pan] {x0 : Value} {w : World} {Q : Value → World → Prop} (h : state_State_right.F x0 w Q) : Calls Tryd.prog 44 #[x0] w (retP Q) :=
  calls_of_cw (H := state_State_right.H) (c := state_State_right.c) (args := [x0]) mixed Tryd.func44 (by kernel_rfl) (by kernel_rfl) (Nat.le_of_ble_eq_true (by kernel_rfl)) ((state_State_right.eq x0 w Q).mpr h)

/-! state_isLen: pith/state.isLen; temporaries: 0:n 1:n -/
def state_isLen.H : Hints := { cut := fun  | _ => none, loop := fun  | _ => ([], 0), order := fun  | _ => [] }
def state_isLen.F [Pan] (x0 : Value) (w : World) (Q : Value → World → Prop) : Prop :=
 pN Tryd.prog (oBin .geq 3 (.tmp 3) (.const (.int .i64 2)) x0 (.int .i64 2)) w fun x4 w1 =>
 pGd (gB x4 true) (pN Tryd.prog (oMv x0) w1) w1 fun x6 w2 =>
 pGd (gB x4 true) (pN Tryd.prog (oBin .leq 3 (.tmp 6) (.const (.int .i64 273)) x6 (.int .i64 273)) w2) w2 fun x7 w3 =>
 pN Tryd.prog (oPick x4 x7 (.bool false)) w3 fun x8 w4 =>
 Q x8 w4
noncomputable def state_isLen.c : Code := match Tryd.f45.body with | some c => c | none => .skip
theorem state_isLen.eq [Pan] (x0 : Value) (w : World) (Q : Value → World → Prop) : cw Tryd.prog state_isLen.H state_isLen.c (endQ Tryd.prog Tryd.f45.results.toList Q) (argsE [x0]) w = state_isLen.F x0 w Q := by kernel_rfl
theorem state_isLen.calls [Pan] {x0 : Value} {w : World} {Q : Value → World → Prop} (h : state_isLen.F x0 w Q) : Calls Tryd.prog 45 #[x0] w (retP Q) :=
  calls_of_cw (H := state_isLen.H) (c := state_isLen.c) (args := [x0]) mixed Tryd.func45 (by kernel_rfl) (by kernel_rfl) (Nat.le_of_ble_eq_true (by kernel_rfl)) ((state_isLen.eq x0 w Q).mpr h)

/-! state_isDist: pith/state.isDist; temporaries: 0:d 1:d -/
def state_isDist.H : Hints := { cut := fun  | _ => none, loop := fun  | _ => ([], 0), order := fun  | _ => [] }
def state_isDist.F [Pan] (x0 : Value) (w : World) (Q : Value → World → Prop) : Prop :=
 pN Tryd.prog (oBin .geq 3 (.tmp 3) (.const (.int .i64 1)) x0 (.int .i64 1)) w fun x4 w1 =>
 pGd (gB x4 true) (pN Tryd.prog (oMv x0) w1) w1 fun x6 w2 =>
 pGd (gB x4 true) (pN Tryd.prog (oBin .leq 3 (.tmp 6) (.const (.int .i64 4294967295)) x6 (.int .i64 4294967295)) w2) w2 fun x7 w3 =>
 pN Tryd.prog (oPick x4 x7 (.bool false)) w3 fun x8 w4 =>
 Q x8 w4
noncomputable def state_isDist.c : Code := match Tryd.f46.body with | some c => c | none => .skip
theorem state_isDist.eq [Pan] (x0 : Value) (w : World) (Q : Value → World → Prop) : cw Tryd.prog state_isDist.H state_isDist.c (endQ Tryd.prog Tryd.f46.results.toList Q) (argsE [x0]) w = state_isDist.F x0 w Q := by kernel_rfl
theorem state_isDist.calls [Pan] {x0 : Value} {w : World} {Q : Value → World → Prop} (h : state_isDist.F x0 w Q) : Calls Tryd.prog 46 #[x0] w (retP Q) :=
  calls_of_cw (H := state_isDist.H) (c := state_isDist.c) (args := [x0]) mixed Tryd.func46 (by kernel_rfl) (by kernel_rfl) (Nat.le_of_ble_eq_true (by kernel_rfl)) ((state_isDist.eq x0 w Q).mpr h)

/-! state_State_Literal: (pith/state.State).Literal; temporaries: 0:s 1:s -/
def state_State_Literal.H : Hints := { cut := fun  | _ => none, loop := fun  | _ => ([], 0), order := fun  | _ => [] }
def state_State_Literal.F [Pan] (x0 : Value) (w : World) (Q : Value → World → Prop) : Prop :=
 pN Tryd.prog (oBox 60 x0) w fun x1 w1 =>
 pN Tryd.prog (oFld 60 x1 0) w1 fun x3 w2 =>
 pN Tryd.prog (oLoad 3 x3) w2 fun x4 w3 =>
 pN Tryd.prog (oBin .geq 3 (.tmp 4) (.const (.int .i64 0)) x4 (.int .i64 0)) w3 fun x5 w4 =>
 pGd (gB x5 true) (pN Tryd.prog (oFld 60 x1 0) w4) w4 fun x7 w5 =>
 pGd (gB x5 true) (pN Tryd.prog (oLoad 3 x7) w5) w5 fun x8 w6 =>
 pGd (gB x5 true) (pN Tryd.prog (oBin .lss 3 (.tmp 8) (.const (.int .i64 7)) x8 (.int .i64 7)) w6) w6 fun x9 w7 =>
 pN Tryd.prog (oPick x5 x9 (.bool false)) w7 fun x10 w8 =>
 Q x10 w8
noncomputable def state_State_Literal.c : Code := match Tryd.f51.body with | some c => c | none => .skip
theorem state_State_Literal.eq [Pan] (x0 : Value) (w : World) (Q : Value → World → Prop) : cw Tryd.prog state_State_Literal.H state_State_Literal.c (endQ Tryd.prog Tryd.f51.results.toList Q) (argsE [x0]) w = state_State_Literal.F x0 w Q := by kernel_rfl
theorem state_State_Literal.calls [Pan] {x0 : Value} {w : World} {Q : Value → World → Prop} (h : state_State_Literal.F x0 w Q) : Calls Tryd.prog 51 #[x0] w (retP Q) :=
  calls_of_cw (H := state_State_Literal.H) (c := state_State_Literal.c) (args := [x0]) mixed Tryd.func51 (by kernel_rfl) (by kernel_rfl) (Nat.le_of_ble_eq_true (by kernel_rfl)) ((state_State_Literal.eq x0 w Q).mpr h)

/-! state_Slot: pith/state.Slot; temporaries: 0:dist 1:dist 4:x 5:k -/
def state_Slot.H : Hints := { cut := fun  | _ => none, loop := fun  | _ => ([], 0), order := fun  | _ => [] }
def state_Slot.F [Pan] (x0 : Value) (w : World) (Q : Value → World → Prop) : Prop :=
 pN Tryd.prog (oCall 46 [x0]) w fun x7 w1 =>
 pN Tryd.prog (oUn .not x7) w1 fun x8 w2 =>
 pIf x8
 (Q (.tuple #[(.int .i64 0), (.int .i64 7)]) w2)
 (pN Tryd.prog (oBin .sub 3 (.tmp 9) (.const (.int .i64 1)) x0 (.int .i64 1)) w2 fun x10 w3 =>
 pN Tryd.prog (oConv 3 110 x10) w3 fun x11 w4 =>
 pN Tryd.prog (oBin .lss 110 (.tmp 12) (.const (.int .u64 4)) x11 (.int .u64 4)) w4 fun x13 w5 =>
 pIf x13
 (pN Tryd.prog (oConv 110 3 x11) w5 fun x15 w6 =>
 Q (.tuple #[x15, (.int .i64 0)]) w6)
 (pN Tryd.prog (oCall 57 [x11]) w5 fun x17 w7 =>
 pN Tryd.prog (oBin .sub 3 (.tmp 18) (.const (.int .i64 1)) x17 (.int .i64 1)) w7 fun x19 w8 =>
 pN Tryd.prog (oBin .mul 3 (.const (.int .i64 2)) (.tmp 19) (.int .i64 2) x19) w8 fun x20 w9 =>
 pN Tryd.prog (oBin .sub 3 (.tmp 22) (.const (.int .i64 2)) x17 (.int .i64 2)) w9 fun x23 w10 =>
 pN Tryd.prog (oBin .shr 110 (.tmp 21) (.tmp 23) x11 x23) w10 fun x24 w11 =>
 pN Tryd.prog (oBin .and 110 (.tmp 24) (.const (.int .u64 1)) x24 (.int .u64 1)) w11 fun x25 w12 =>
 pN Tryd.prog (oConv 110 3 x25) w12 fun x26 w13 =>
 pN Tryd.prog (oBin .add 3 (.tmp 20) (.tmp 26) x20 x26) w13 fun x27 w14 =>
 Q (.tuple #[x27, (.int .i64 0)]) w14))
noncomputable def state_Slot.c : Code := match Tryd.f52.body with | some c => c | none => .skip
theorem state_Slot.eq [Pan] (x0 : Value) (w : World) (Q : Value → World → Prop) : cw Tryd.prog state_Slot.H state_Slot.c (endQ Tryd.prog Tryd.f52.results.toList Q) (argsE [x0]) w = state_Slot.F x0 w Q := by kernel_rfl
theorem state_Slot.calls [Pan] {x0 : Value} {w : World} {Q : Value → World → Prop} (h : state_Slot.F x0 w Q) : Calls Tryd.prog 52 #[x0] w (retP Q) :=
  calls_of_cw (H := state_Slot.H) (c := state_Slot.c) (args := [x0]) mixed Tryd.func52 (by kernel_rfl) (by kernel_rfl) (Nat.le_of_ble_eq_true (by kernel_rfl)) ((state_Slot.eq x0 w Q).mpr h)

/-! state_Range: pith/state.Range; temporaries: 0:slot 1:slot 5:n -/
def state_Range.H : Hints := { cut := fun  | _ => none, loop := fun  | _ => ([], 0), order := fun  | _ => [] }
def state_Range.F [Pan] (x0 : Value) (w : World) (Q : Value → World → Prop) : Prop :=
 pN Tryd.prog (oBin .lss 3 (.tmp 6) (.const (.int .i64 0)) x0 (.int .i64 0)) w fun x7 w1 =>
 pGd (gB x7 false) (pN Tryd.prog (oMv x0) w1) w1 fun x9 w2 =>
 pGd (gB x7 false) (pN Tryd.prog (oBin .gtr 3 (.tmp 9) (.const (.int .i64 63)) x9 (.int .i64 63)) w2) w2 fun x10 w3 =>
 pN Tryd.prog (oPick x7 (.bool true) x10) w3 fun x11 w4 =>
 pIf x11
 (Q (.tuple #[(.int .i64 0), (.int .i64 0), (.int .i64 7)]) w4)
 (pN Tryd.prog (oBin .lss 3 (.tmp 12) (.const (.int .i64 4)) x0 (.int .i64 4)) w4 fun x13 w5 =>
 pIf x13
 (pN Tryd.prog (oBin .add 3 (.tmp 14) (.const (.int .i64 1)) x0 (.int .i64 1)) w5 fun x15 w6 =>
 Q (.tuple #[x15, (.int .i64 0), (.int .i64 0)]) w6)
 (pN Tryd.prog (oBin .quo 3 (.tmp 16) (.const (.int .i64 2)) x0 (.int .i64 2)) w5 fun x17 w7 =>
 pN Tryd.prog (oBin .sub 3 (.tmp 17) (.const (.int .i64 1)) x17 (.int .i64 1)) w7 fun x18 w8 =>
 pN Tryd.prog (oBin .and 3 (.tmp 19) (.const (.int .i64 1)) x0 (.int .i64 1)) w8 fun x20 w9 =>
 pN Tryd.prog (oBin .or 3 (.const (.int .i64 2)) (.tmp 20) (.int .i64 2) x20) w9 fun x21 w10 =>
 pN Tryd.prog (oBin .shl 3 (.tmp 21) (.tmp 22) x21 x18) w10 fun x23 w11 =>
 pN Tryd.prog (oBin .add 3 (.tmp 23) (.const (.int .i64 1)) x23 (.int .i64 1)) w11 fun x24 w12 =>
 Q (.tuple #[x24, x18, (.int .i64 0)]) w12))
noncomputable def state_Range.c : Code := match Tryd.f53.body with | some c => c | none => .skip
theorem state_Range.eq [Pan] (x0 : Value) (w : World) (Q : Value → World → Prop) : cw Tryd.prog state_Range.H state_Range.c (endQ Tryd.prog Tryd.f53.results.toList Q) (argsE [x0]) w = state_Range.F x0 w Q := by kernel_rfl
theorem state_Range.calls [Pan] {x0 : Value} {w : World} {Q : Value → World → Prop} (h : state_Range.F x0 w Q) : Calls Tryd.prog 53 #[x0] w (retP Q) :=
  calls_of_cw (H := state_Range.H) (c := state_Range.c) (args := [x0]) mixed Tryd.func53 (by kernel_rfl) (by kernel_rfl) (Nat.le_of_ble_eq_true (by kernel_rfl)) ((state_Range.eq x0 w Q).mpr h)

end Go.Proofs.YtbgnnjfpiblkmaaDoor
