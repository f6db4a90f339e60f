/-
  Printed by a program of mine (lift.py): each function of the seat as a plain proposition over values and worlds; that the program meets it.
-/
import Derived.Test.YtbgnnjfpiblkmaaDoorRows
import Derived.Test.YtbgnnjfpiblkmaaDoorFacts
namespace Go.Proofs.YtbgnnjfpiblkmaaDoor
open Go
set_option linter.unusedSimpArgs false
set_option linter.unnecessarySimpa false
set_option linter.unusedSectionVars false
set_option linter.unusedVariables false
set_option maxRecDepth 100000

/-! lzenc_New: pith/lzenc.New; temporaries: 0:p 1:dict 2:p 3:dict 6:_ 7:err 8:w 9:err -/
def lzenc_New.H : Hints := { cut := fun  | _ => none, loop := fun  | _ => ([], 0), order := fun  | _ => [] }
def lzenc_New.F [Pan] (x0 : Value) (x1 : Value) (w : World) (Q : Value → World → Prop) : Prop :=
 pN Tryd.prog (oBox 23 x0) w fun x2 w1 =>
 pN Tryd.prog (oLoad 23 x2) w1 fun x11 w2 =>
 pN Tryd.prog (oCall 15 [x11]) w2 fun x12 w3 =>
 pN Tryd.prog (oExt x12 0) w3 fun _ w4 =>
 pN Tryd.prog (oExt x12 1) w4 fun x14 w5 =>
 pN Tryd.prog (oBin .neq 28 (.tmp 15) (.const (.int .i64 0)) x14 (.int .i64 0)) w5 fun x16 w6 =>
 pIf x16
 (Q (.tuple #[(.pointer none), x14]) w6)
 (pN Tryd.prog (oCall 16 [x1]) w6 fun x20 w7 =>
 pN Tryd.prog (oExt x20 0) w7 fun x21 w8 =>
 pN Tryd.prog (oExt x20 1) w8 fun x22 w9 =>
 pN Tryd.prog (oBin .neq 28 (.tmp 23) (.const (.int .i64 0)) x22 (.int .i64 0)) w9 fun x24 w10 =>
 pIf x24
 (Q (.tuple #[(.pointer none), x22]) w10)
 (pN Tryd.prog (oLoad 23 x2) w10 fun x26 w11 =>
 pN Tryd.prog (oCall 17 [x26]) w11 fun x27 w12 =>
 pN Tryd.prog (oCall 18 []) w12 fun x29 w13 =>
 pN Tryd.prog (oBuild 54 [(0, x27), (1, x21), (2, x29)]) w13 fun x30 w14 =>
 pN Tryd.prog (oBox 54 x30) w14 fun x31 w15 =>
 Q (.tuple #[x31, (.int .i64 0)]) w15))
noncomputable def lzenc_New.c : Code := match Tryd.f5.body with | some c => c | none => .skip
theorem lzenc_New.eq [Pan] (x0 : Value) (x1 : Value) (w : World) (Q : Value → World → Prop) : cw Tryd.prog lzenc_New.H lzenc_New.c (endQ Tryd.prog Tryd.f5.results.toList Q) (argsE [x0, x1]) w = lzenc_New.F x0 x1 w Q := by kernel_rfl
theorem lzenc_New.calls [Pan] {x0 : Value} {x1 : Value} {w : World} {Q : Value → World → Prop} (h : lzenc_New.F x0 x1 w Q) : Calls Tryd.prog 5 #[x0, x1] w (retP Q) :=
  calls_of_cw (H := lzenc_New.H) (c := lzenc_New.c) (args := [x0, x1]) mixed Tryd.func5 (by kernel_rfl) (by kernel_rfl) (Nat.le_of_ble_eq_true (by kernel_rfl)) ((lzenc_New.eq x0 x1 w Q).mpr h)

/-! lzenc_Encoder_Size: (*pith/lzenc.Encoder).Size; temporaries: 0:e 1:e -/
def lzenc_Encoder_Size.H : Hints := { cut := fun  | _ => none, loop := fun  | _ => ([], 0), order := fun  | _ => [] }
def lzenc_Encoder_Size.F [Pan] (x0 : Value) (w : World) (Q : Value → World → Prop) : Prop :=
 pN Tryd.prog (oNil x0) w fun x4 w1 =>
 pN Tryd.prog (oFld 54 x4 2) w1 fun x5 w2 =>
 pN Tryd.prog (oLoad 51 x5) w2 fun x6 w3 =>
 pN Tryd.prog (oCall 19 [x6]) w3 fun x7 w4 =>
 Q x7 w4
noncomputable def lzenc_Encoder_Size.c : Code := match Tryd.f8.body with | some c => c | none => .skip
theorem lzenc_Encoder_Size.eq [Pan] (x0 : Value) (w : World) (Q : Value → World → Prop) : cw Tryd.prog lzenc_Encoder_Size.H lzenc_Encoder_Size.c (endQ Tryd.prog Tryd.f8.results.toList Q) (argsE [x0]) w = lzenc_Encoder_Size.F x0 w Q := by kernel_rfl
theorem lzenc_Encoder_Size.calls [Pan] {x0 : Value} {w : World} {Q : Value → World → Prop} (h : lzenc_Encoder_Size.F x0 w Q) : Calls Tryd.prog 8 #[x0] w (retP Q) :=
  calls_of_cw (H := lzenc_Encoder_Size.H) (c := lzenc_Encoder_Size.c) (args := [x0]) mixed Tryd.func8 (by kernel_rfl) (by kernel_rfl) (Nat.le_of_ble_eq_true (by kernel_rfl)) ((lzenc_Encoder_Size.eq x0 w Q).mpr h)

/-! lzenc_Encoder_Put: (*pith/lzenc.Encoder).Put; temporaries: 0:e 1:y 2:e 3:y 5:err 6:_ 7:s 8:err -/
def lzenc_Encoder_Put.H : Hints := { cut := fun | 8 => some ([], 1123700883587072) | _ => none, loop := fun  | _ => ([], 0), order := fun | 4 => [(0, 0), (1, 1), (2, 3), (3, 7), (4, 15), (7, 31), (5, 159), (6, 191), (8, 255)] | 7 => [(0, 0), (1, 1), (2, 3), (3, 7), (4, 15), (5, 31), (6, 63), (7, 127)] | _ => [] }
def lzenc_Encoder_Put.F [Pan] (x0 : Value) (x1 : Value) (w : World) (Q : Value → World → Prop) : Prop :=
 pN Tryd.prog (oBox 34 x1) w fun x3 w1 =>
 pN Tryd.prog (oLoad 34 x3) w1 fun x10 w2 =>
 pN Tryd.prog (oCall 20 [x0, x10]) w2 fun x11 w3 =>
 pN Tryd.prog (oBin .neq 28 (.tmp 12) (.const (.int .i64 0)) x11 (.int .i64 0)) w3 fun x13 w4 =>
 pIf x13
 (Q x11 w4)
 (pDr w4 fun w5 =>
 pA Tryd.prog (oNil x0) fun x17 =>
 pA Tryd.prog (oFld 54 x17 2) fun x18 =>
 pL Tryd.prog (oLoad 51 x18) w5 fun x19 =>
 pL Tryd.prog (oLoad 34 x3) w5 fun x22 =>
 pN Tryd.prog (oBuild 57 [(0, x19)]) w5 fun x20 w6 =>
 ((Sem.run Tryd.prog (oLoad 34 x3) w6 = .ok (.value x22) w6) ∧ True) ∧ (pN Tryd.prog (oIface 57 x20) w6 fun x21 w7 =>
 ((Sem.run Tryd.prog (oLoad 34 x3) w7 = .ok (.value x22) w7) ∧ True) ∧ (pN Tryd.prog (oCall 21 [x0, x21, x22]) w7 fun _ w8 =>
 (True) ∧ (pDr w8 fun w9 =>
 pA Tryd.prog (oNil x0) fun x26 =>
 pA Tryd.prog (oFld 54 x26 1) fun x27 =>
 pL Tryd.prog (oLoad 46 x27) w9 fun x28 =>
 pA Tryd.prog (oNil x0) fun x30 =>
 pA Tryd.prog (oFld 54 x30 0) fun x31 =>
 pL Tryd.prog (oLoad 49 x31) w9 fun x32 =>
 pA Tryd.prog (oNil x32) fun x33 =>
 pA Tryd.prog (oFld 67 x33 1) fun x34 =>
 pL Tryd.prog (oLoad 60 x34) w9 fun x35 =>
 pL Tryd.prog (oLoad 34 x3) w9 fun x36 =>
 (pN Tryd.prog (oCall 22 [x28, x35, x36]) w9 fun x37 w10 =>
 (True) ∧ (pA Tryd.prog (oExt x37 0) fun _ =>
 pA Tryd.prog (oExt x37 1) fun x39 =>
 pA Tryd.prog (oExt x37 2) fun x40 =>
 pN Tryd.prog (oAlloc 60) w10 fun x7 w11 =>
 (True) ∧ (pN Tryd.prog (oStore 60 x7 x39) w11 fun _ w12 =>
 (True) ∧ (∃ I8 : World → Prop,
 (pN Tryd.prog (oBin .eql 28 (.tmp 41) (.const (.int .i64 0)) x40 (.int .i64 0)) w12 fun x42 w13 =>
 pIf x42
 (pDr w13 fun w14 =>
 pA Tryd.prog (oNil x0) fun x44 =>
 pA Tryd.prog (oFld 54 x44 0) fun x45 =>
 pL Tryd.prog (oLoad 49 x45) w14 fun x46 =>
 pL Tryd.prog (oLoad 60 x7) w14 fun x47 =>
 pA Tryd.prog (oNil x46) fun x48 =>
 pA Tryd.prog (oFld 67 x48 1) fun x49 =>
 pN Tryd.prog (oStore 60 x49 x47) w14 fun _ w15 =>
 (True) ∧ (I8 w15))
 (I8 w13)) ∧
 ∀ (_j8 : Env) (w16 : World), I8 w16 →
 Q x40 w16)))) ∧ (pN Tryd.prog (oAlloc 60) w9 fun x7 w17 =>
 ((Sem.run Tryd.prog (oLoad 34 x3) w17 = .ok (.value x36) w17) ∧ (Sem.run Tryd.prog (oLoad 60 x34) w17 = .ok (.value x35) w17) ∧ (Sem.run Tryd.prog (oLoad 49 x31) w17 = .ok (.value x32) w17) ∧ (Sem.run Tryd.prog (oLoad 46 x27) w17 = .ok (.value x28) w17) ∧ True) ∧ (pN Tryd.prog (oCall 22 [x28, x35, x36]) w17 fun x37 w18 =>
 (True) ∧ (pA Tryd.prog (oExt x37 0) fun _ =>
 pA Tryd.prog (oExt x37 1) fun x39 =>
 pA Tryd.prog (oExt x37 2) fun x40 =>
 pN Tryd.prog (oStore 60 x7 x39) w18 fun _ w19 =>
 (True) ∧ (∃ I8 : World → Prop,
 (pN Tryd.prog (oBin .eql 28 (.tmp 41) (.const (.int .i64 0)) x40 (.int .i64 0)) w19 fun x42 w20 =>
 pIf x42
 (pDr w20 fun w21 =>
 pA Tryd.prog (oNil x0) fun x44 =>
 pA Tryd.prog (oFld 54 x44 0) fun x45 =>
 pL Tryd.prog (oLoad 49 x45) w21 fun x46 =>
 pL Tryd.prog (oLoad 60 x7) w21 fun x47 =>
 pA Tryd.prog (oNil x46) fun x48 =>
 pA Tryd.prog (oFld 67 x48 1) fun x49 =>
 pN Tryd.prog (oStore 60 x49 x47) w21 fun _ w22 =>
 (True) ∧ (I8 w22))
 (I8 w20)) ∧
 ∀ (_j8 : Env) (w23 : World), I8 w23 →
 Q x40 w23))))))))
noncomputable def lzenc_Encoder_Put.c : Code := match Tryd.f9.body with | some c => c | none => .skip
theorem lzenc_Encoder_Put.eq [Pan] (x0 : Value) (x1 : Value) (w : World) (Q : Value → World → Prop) : cw Tryd.prog lzenc_Encoder_Put.H lzenc_Encoder_Put.c (endQ Tryd.prog Tryd.f9.results.toList Q) (argsE [x0, x1]) w = lzenc_Encoder_Put.F x0 x1 w Q := by kernel_rfl
theorem lzenc_Encoder_Put.calls [Pan] {x0 : Value} {x1 : Value} {w : World} {Q : Value → World → Prop} (h : lzenc_Encoder_Put.F x0 x1 w Q) : Calls Tryd.prog 9 #[x0, x1] w (retP Q) :=
  calls_of_cw (H := lzenc_Encoder_Put.H) (c := lzenc_Encoder_Put.c) (args := [x0, x1]) mixed Tryd.func9 (by kernel_rfl) (by kernel_rfl) (Nat.le_of_ble_eq_true (by kernel_rfl)) ((lzenc_Encoder_Put.eq x0 x1 w Q).mpr h)

/-! lzenc_Encoder_Reset: (*pith/lzenc.Encoder).Reset; temporaries: 0:e 1:p 2:e 3:p 5:_ 6:err -/
def lzenc_Encoder_Reset.H : Hints := { cut := fun  | _ => none, loop := fun  | _ => ([], 0), order := fun  | _ => [] }
def lzenc_Encoder_Reset.F [Pan] (x0 : Value) (x1 : Value) (w : World) (Q : Value → World → Prop) : Prop :=
 pN Tryd.prog (oBox 23 x1) w fun x3 w1 =>
 pN Tryd.prog (oLoad 23 x3) w1 fun x8 w2 =>
 pN Tryd.prog (oCall 15 [x8]) w2 fun x9 w3 =>
 pN Tryd.prog (oExt x9 0) w3 fun _ w4 =>
 pN Tryd.prog (oExt x9 1) w4 fun x11 w5 =>
 pN Tryd.prog (oBin .neq 28 (.tmp 12) (.const (.int .i64 0)) x11 (.int .i64 0)) w5 fun x13 w6 =>
 pIf x13
 (Q x11 w6)
 (pN Tryd.prog (oLoad 23 x3) w6 fun x16 w7 =>
 pN Tryd.prog (oCall 17 [x16]) w7 fun x17 w8 =>
 pN Tryd.prog (oNil x0) w8 fun x18 w9 =>
 pN Tryd.prog (oFld 54 x18 0) w9 fun x19 w10 =>
 pN Tryd.prog (oStore 49 x19 x17) w10 fun _ w11 =>
 Q (.int .i64 0) w11)
noncomputable def lzenc_Encoder_Reset.c : Code := match Tryd.f10.body with | some c => c | none => .skip
theorem lzenc_Encoder_Reset.eq [Pan] (x0 : Value) (x1 : Value) (w : World) (Q : Value → World → Prop) : cw Tryd.prog lzenc_Encoder_Reset.H lzenc_Encoder_Reset.c (endQ Tryd.prog Tryd.f10.results.toList Q) (argsE [x0, x1]) w = lzenc_Encoder_Reset.F x0 x1 w Q := by kernel_rfl
theorem lzenc_Encoder_Reset.calls [Pan] {x0 : Value} {x1 : Value} {w : World} {Q : Value → World → Prop} (h : lzenc_Encoder_Reset.F x0 x1 w Q) : Calls Tryd.prog 10 #[x0, x1] w (retP Q) :=
  calls_of_cw (H := lzenc_Encoder_Reset.H) (c := lzenc_Encoder_Reset.c) (args := [x0, x1]) mixed Tryd.func10 (by kernel_rfl) (by kernel_rfl) (Nat.le_of_ble_eq_true (by kernel_rfl)) ((lzenc_Encoder_Reset.eq x0 x1 w Q).mpr h)

/-! lzenc_Encoder_Cut: (*pith/lzenc.Encoder).Cut; temporaries: 0:e 1:e 3:b -/
def lzenc_Encoder_Cut.H : Hints := { cut := fun  | _ => none, loop := fun  | _ => ([], 0), order := fun  | _ => [] }
def lzenc_Encoder_Cut.F [Pan] (x0 : Value) (w : World) (Q : Value → World → Prop) : Prop :=
 pN Tryd.prog (oNil x0) w fun x5 w1 =>
 pN Tryd.prog (oFld 54 x5 2) w1 fun x6 w2 =>
 pN Tryd.prog (oLoad 51 x6) w2 fun x7 w3 =>
 pN Tryd.prog (oCall 23 [x7]) w3 fun x8 w4 =>
 pN Tryd.prog (oCall 18 []) w4 fun x10 w5 =>
 pN Tryd.prog (oNil x0) w5 fun x11 w6 =>
 pN Tryd.prog (oFld 54 x11 2) w6 fun x12 w7 =>
 pN Tryd.prog (oStore 51 x12 x10) w7 fun _ w8 =>
 Q x8 w8
noncomputable def lzenc_Encoder_Cut.c : Code := match Tryd.f11.body with | some c => c | none => .skip
theorem lzenc_Encoder_Cut.eq [Pan] (x0 : Value) (w : World) (Q : Value → World → Prop) : cw Tryd.prog lzenc_Encoder_Cut.H lzenc_Encoder_Cut.c (endQ Tryd.prog Tryd.f11.results.toList Q) (argsE [x0]) w = lzenc_Encoder_Cut.F x0 w Q := by kernel_rfl
theorem lzenc_Encoder_Cut.calls [Pan] {x0 : Value} {w : World} {Q : Value → World → Prop} (h : lzenc_Encoder_Cut.F x0 w Q) : Calls Tryd.prog 11 #[x0] w (retP Q) :=
  calls_of_cw (H := lzenc_Encoder_Cut.H) (c := lzenc_Encoder_Cut.c) (args := [x0]) mixed Tryd.func11 (by kernel_rfl) (by kernel_rfl) (Nat.le_of_ble_eq_true (by kernel_rfl)) ((lzenc_Encoder_Cut.eq x0 w Q).mpr h)

/-! lzenc_Encoder_Fork: (*pith/lzenc.Encoder).Fork; temporaries: 0:e 1:e -/
def lzenc_Encoder_Fork.H : Hints := { cut := fun  | _ => none, loop := fun  | _ => ([], 0), order := fun | 1 => [(0, 0), (1, 1), (2, 3), (3, 7), (5, 15), (6, 47), (7, 111), (8, 239), (10, 495), (11, 1519), (12, 3567), (13, 7663), (4, 15855), (9, 15871), (14, 16383), (15, 32767), (16, 65535), (17, 131071)] | _ => [] }
def lzenc_Encoder_Fork.F [Pan] (x0 : Value) (w : World) (Q : Value → World → Prop) : Prop :=
 pDr w fun w1 =>
 pA Tryd.prog (oNil x0) fun x4 =>
 pA Tryd.prog (oFld 54 x4 0) fun x5 =>
 pL Tryd.prog (oLoad 49 x5) w1 fun x6 =>
 pA Tryd.prog (oNil x0) fun x9 =>
 pA Tryd.prog (oFld 54 x9 1) fun x10 =>
 pL Tryd.prog (oLoad 46 x10) w1 fun x11 =>
 pA Tryd.prog (oNil x0) fun x14 =>
 pA Tryd.prog (oFld 54 x14 2) fun x15 =>
 pL Tryd.prog (oLoad 51 x15) w1 fun x16 =>
 pN Tryd.prog (oCall 24 [x6]) w1 fun x7 w2 =>
 ((Sem.run Tryd.prog (oLoad 51 x15) w2 = .ok (.value x16) w2) ∧ (Sem.run Tryd.prog (oLoad 46 x10) w2 = .ok (.value x11) w2) ∧ True) ∧ (pN Tryd.prog (oCall 25 [x11]) w2 fun x12 w3 =>
 ((Sem.run Tryd.prog (oLoad 51 x15) w3 = .ok (.value x16) w3) ∧ True) ∧ (pN Tryd.prog (oCall 26 [x16]) w3 fun x17 w4 =>
 (True) ∧ (pN Tryd.prog (oBuild 54 [(0, x7), (1, x12), (2, x17)]) w4 fun x18 w5 =>
 (True) ∧ (pN Tryd.prog (oBox 54 x18) w5 fun x19 w6 =>
 (True) ∧ (Q x19 w6)))))
noncomputable def lzenc_Encoder_Fork.c : Code := match Tryd.f12.body with | some c => c | none => .skip
theorem lzenc_Encoder_Fork.eq [Pan] (x0 : Value) (w : World) (Q : Value → World → Prop) : cw Tryd.prog lzenc_Encoder_Fork.H lzenc_Encoder_Fork.c (endQ Tryd.prog Tryd.f12.results.toList Q) (argsE [x0]) w = lzenc_Encoder_Fork.F x0 w Q := by kernel_rfl
theorem lzenc_Encoder_Fork.calls [Pan] {x0 : Value} {w : World} {Q : Value → World → Prop} (h : lzenc_Encoder_Fork.F x0 w Q) : Calls Tryd.prog 12 #[x0] w (retP Q) :=
  calls_of_cw (H := lzenc_Encoder_Fork.H) (c := lzenc_Encoder_Fork.c) (args := [x0]) mixed Tryd.func12 (by kernel_rfl) (by kernel_rfl) (Nat.le_of_ble_eq_true (by kernel_rfl)) ((lzenc_Encoder_Fork.eq x0 w Q).mpr h)

/-! lzenc_Encoder_Cost: (*pith/lzenc.Encoder).Cost; temporaries: 0:e 1:y 2:e 3:y 6:err 7:c -/
def lzenc_Encoder_Cost.H : Hints := { cut := fun  | _ => none, loop := fun  | _ => ([], 0), order := fun  | _ => [] }
def lzenc_Encoder_Cost.F [Pan] (x0 : Value) (x1 : Value) (w : World) (Q : Value → World → Prop) : Prop :=
 pN Tryd.prog (oBox 34 x1) w fun x3 w1 =>
 pN Tryd.prog (oLoad 34 x3) w1 fun x9 w2 =>
 pN Tryd.prog (oCall 20 [x0, x9]) w2 fun x10 w3 =>
 pN Tryd.prog (oBin .neq 28 (.tmp 11) (.const (.int .i64 0)) x10 (.int .i64 0)) w3 fun x12 w4 =>
 pIf x12
 (Q (.tuple #[(.int .i64 0), x10]) w4)
 (pN Tryd.prog (oAlloc 71) w4 fun x7 w5 =>
 pN Tryd.prog (oIface 72 x7) w5 fun x15 w6 =>
 pN Tryd.prog (oLoad 34 x3) w6 fun x16 w7 =>
 pN Tryd.prog (oCall 21 [x0, x15, x16]) w7 fun _ w8 =>
 pN Tryd.prog (oFld 71 x7 0) w8 fun x18 w9 =>
 pN Tryd.prog (oLoad 3 x18) w9 fun x19 w10 =>
 Q (.tuple #[x19, (.int .i64 0)]) w10)
noncomputable def lzenc_Encoder_Cost.c : Code := match Tryd.f13.body with | some c => c | none => .skip
theorem lzenc_Encoder_Cost.eq [Pan] (x0 : Value) (x1 : Value) (w : World) (Q : Value → World → Prop) : cw Tryd.prog lzenc_Encoder_Cost.H lzenc_Encoder_Cost.c (endQ Tryd.prog Tryd.f13.results.toList Q) (argsE [x0, x1]) w = lzenc_Encoder_Cost.F x0 x1 w Q := by kernel_rfl
theorem lzenc_Encoder_Cost.calls [Pan] {x0 : Value} {x1 : Value} {w : World} {Q : Value → World → Prop} (h : lzenc_Encoder_Cost.F x0 x1 w Q) : Calls Tryd.prog 13 #[x0, x1] w (retP Q) :=
  calls_of_cw (H := lzenc_Encoder_Cost.H) (c := lzenc_Encoder_Cost.c) (args := [x0, x1]) mixed Tryd.func13 (by kernel_rfl) (by kernel_rfl) (Nat.le_of_ble_eq_true (by kernel_rfl)) ((lzenc_Encoder_Cost.eq x0 x1 w Q).mpr h)

/-! lzenc_Encoder_Clear: (*pith/lzenc.Encoder).Clear; temporaries: 0:e 1:e -/
def lzenc_Encoder_Clear.H : Hints := { cut := fun  | _ => none, loop := fun  | _ => ([], 0), order := fun  | _ => [] }
def lzenc_Encoder_Clear.F [Pan] (x0 : Value) (w : World) (Q : Value → World → Prop) : Prop :=
 pN Tryd.prog (oNil x0) w fun x4 w1 =>
 pN Tryd.prog (oFld 54 x4 0) w1 fun x5 w2 =>
 pN Tryd.prog (oLoad 49 x5) w2 fun x6 w3 =>
 pN Tryd.prog (oNil x6) w3 fun x7 w4 =>
 pN Tryd.prog (oFld 67 x7 0) w4 fun x8 w5 =>
 pN Tryd.prog (oLoad 23 x8) w5 fun x9 w6 =>
 pN Tryd.prog (oCall 17 [x9]) w6 fun x10 w7 =>
 pN Tryd.prog (oNil x0) w7 fun x11 w8 =>
 pN Tryd.prog (oFld 54 x11 0) w8 fun x12 w9 =>
 pN Tryd.prog (oStore 49 x12 x10) w9 fun _ w10 =>
 pN Tryd.prog (oNil x0) w10 fun x14 w11 =>
 pN Tryd.prog (oFld 54 x14 1) w11 fun x15 w12 =>
 pN Tryd.prog (oLoad 46 x15) w12 fun x16 w13 =>
 pN Tryd.prog (oCall 27 [x16]) w13 fun _ w14 =>
 Q (.tuple #[]) w14
noncomputable def lzenc_Encoder_Clear.c : Code := match Tryd.f14.body with | some c => c | none => .skip
theorem lzenc_Encoder_Clear.eq [Pan] (x0 : Value) (w : World) (Q : Value → World → Prop) : cw Tryd.prog lzenc_Encoder_Clear.H lzenc_Encoder_Clear.c (endQ Tryd.prog Tryd.f14.results.toList Q) (argsE [x0]) w = lzenc_Encoder_Clear.F x0 w Q := by kernel_rfl
theorem lzenc_Encoder_Clear.calls [Pan] {x0 : Value} {w : World} {Q : Value → World → Prop} (h : lzenc_Encoder_Clear.F x0 w Q) : Calls Tryd.prog 14 #[x0] w (retP Q) :=
  calls_of_cw (H := lzenc_Encoder_Clear.H) (c := lzenc_Encoder_Clear.c) (args := [x0]) mixed Tryd.func14 (by kernel_rfl) (by kernel_rfl) (Nat.le_of_ble_eq_true (by kernel_rfl)) ((lzenc_Encoder_Clear.eq x0 w Q).mpr h)

/-! lzenc_Encoder_may: (*pith/lzenc.Encoder).may; temporaries: 0:e 1:y 2:e 3:y 5:_ 6:err 7:dist 8:_ 9:err -/
def lzenc_Encoder_may.H : Hints := { cut := fun | 14 => some ([7], 144115188042301584) | _ => none, loop := fun  | _ => ([], 0), order := fun | 11 => [(0, 0), (1, 1), (2, 3), (3, 7), (4, 15), (5, 31), (6, 63), (7, 127), (8, 255), (9, 511), (10, 1023), (11, 2047)] | _ => [] }
def lzenc_Encoder_may.F [Pan] (x0 : Value) (x1 : Value) (w : World) (Q : Value → World → Prop) : Prop :=
 pN Tryd.prog (oBox 34 x1) w fun x3 w1 =>
 pDr w1 fun w2 =>
 pA Tryd.prog (oNil x0) fun x12 =>
 pA Tryd.prog (oFld 54 x12 0) fun x13 =>
 pL Tryd.prog (oLoad 49 x13) w2 fun x14 =>
 pA Tryd.prog (oNil x14) fun x15 =>
 pA Tryd.prog (oFld 67 x15 1) fun x16 =>
 pL Tryd.prog (oLoad 60 x16) w2 fun x17 =>
 pL Tryd.prog (oLoad 34 x3) w2 fun x18 =>
 (pN Tryd.prog (oCall 31 [x17, x18]) w2 fun x19 w3 =>
 (True) ∧ (pA Tryd.prog (oExt x19 0) fun x20 =>
 pA Tryd.prog (oExt x19 1) fun x21 =>
 pN Tryd.prog (oAlloc 60) w3 fun x5 w4 =>
 (True) ∧ (pN Tryd.prog (oStore 60 x5 x20) w4 fun _ w5 =>
 (True) ∧ (pN Tryd.prog (oBin .neq 28 (.tmp 22) (.const (.int .i64 0)) x21 (.int .i64 0)) w5 fun x23 w6 =>
 pIf x23
 (Q x21 w6)
 (∃ I14 : Value → World → Prop,
 (pN Tryd.prog (oFld 34 x3 0) w6 fun x25 w7 =>
 pN Tryd.prog (oLoad 3 x25) w7 fun x26 w8 =>
 pN Tryd.prog (oBin .eql 3 (.tmp 26) (.const (.int .i64 1)) x26 (.int .i64 1)) w8 fun x28 w9 =>
 pIf x28
 (Q (.int .i64 0) w9)
 (pN Tryd.prog (oBin .eql 3 (.tmp 26) (.const (.int .i64 2)) x26 (.int .i64 2)) w9 fun x30 w10 =>
 pIf x30
 (pN Tryd.prog (oFld 34 x3 3) w10 fun x31 w11 =>
 pN Tryd.prog (oLoad 3 x31) w11 fun x32 w12 =>
 I14 x32 w12)
 (pN Tryd.prog (oBin .eql 3 (.tmp 26) (.const (.int .i64 3)) x26 (.int .i64 3)) w10 fun x34 w13 =>
 pIf x34
 (pDr w13 fun w14 =>
 pA Tryd.prog (oNil x0) fun x36 =>
 pA Tryd.prog (oFld 54 x36 0) fun x37 =>
 pL Tryd.prog (oLoad 49 x37) w14 fun x38 =>
 pA Tryd.prog (oFld 34 x3 3) fun x39 =>
 pL Tryd.prog (oLoad 3 x39) w14 fun x40 =>
 pA Tryd.prog (oNil x38) fun x41 =>
 pA Tryd.prog (oFld 67 x41 1) fun x42 =>
 pA Tryd.prog (oFld 60 x42 1) fun x43 =>
 pA Tryd.prog (oIdx 58 x43 x40) fun x44 =>
 pL Tryd.prog (oLoad 3 x44) w14 fun x45 =>
 I14 x45 w14)
 (pN Tryd.prog (oBin .eql 3 (.tmp 26) (.const (.int .i64 4)) x26 (.int .i64 4)) w13 fun x47 w15 =>
 pIf x47
 (pN Tryd.prog (oNil x0) w15 fun x49 w16 =>
 pN Tryd.prog (oFld 54 x49 0) w16 fun x50 w17 =>
 pN Tryd.prog (oLoad 49 x50) w17 fun x51 w18 =>
 pN Tryd.prog (oNil x51) w18 fun x52 w19 =>
 pN Tryd.prog (oFld 67 x52 1) w19 fun x53 w20 =>
 pN Tryd.prog (oFld 60 x53 1) w20 fun x54 w21 =>
 pN Tryd.prog (oIdx 58 x54 (.int .i64 0)) w21 fun x55 w22 =>
 pN Tryd.prog (oLoad 3 x55) w22 fun x56 w23 =>
 I14 x56 w23)
 (I14 (.int .i64 0) w15))))) ∧
 ∀ (_j14 : Env) (dist7c14 : Value) (w24 : World), I14 dist7c14 w24 →
 pN Tryd.prog (oNil x0) w24 fun x59 w25 =>
 pN Tryd.prog (oFld 54 x59 1) w25 fun x60 w26 =>
 pN Tryd.prog (oLoad 46 x60) w26 fun x61 w27 =>
 pN Tryd.prog (oCall 32 [x61, dist7c14]) w27 fun x63 w28 =>
 pN Tryd.prog (oExt x63 0) w28 fun _ w29 =>
 pN Tryd.prog (oExt x63 1) w29 fun x65 w30 =>
 Q x65 w30))))) ∧ (pN Tryd.prog (oAlloc 60) w2 fun x5 w31 =>
 ((Sem.run Tryd.prog (oLoad 34 x3) w31 = .ok (.value x18) w31) ∧ (Sem.run Tryd.prog (oLoad 60 x16) w31 = .ok (.value x17) w31) ∧ (Sem.run Tryd.prog (oLoad 49 x13) w31 = .ok (.value x14) w31) ∧ True) ∧ (pN Tryd.prog (oCall 31 [x17, x18]) w31 fun x19 w32 =>
 (True) ∧ (pA Tryd.prog (oExt x19 0) fun x20 =>
 pA Tryd.prog (oExt x19 1) fun x21 =>
 pN Tryd.prog (oStore 60 x5 x20) w32 fun _ w33 =>
 (True) ∧ (pN Tryd.prog (oBin .neq 28 (.tmp 22) (.const (.int .i64 0)) x21 (.int .i64 0)) w33 fun x23 w34 =>
 pIf x23
 (Q x21 w34)
 (∃ I14 : Value → World → Prop,
 (pN Tryd.prog (oFld 34 x3 0) w34 fun x25 w35 =>
 pN Tryd.prog (oLoad 3 x25) w35 fun x26 w36 =>
 pN Tryd.prog (oBin .eql 3 (.tmp 26) (.const (.int .i64 1)) x26 (.int .i64 1)) w36 fun x28 w37 =>
 pIf x28
 (Q (.int .i64 0) w37)
 (pN Tryd.prog (oBin .eql 3 (.tmp 26) (.const (.int .i64 2)) x26 (.int .i64 2)) w37 fun x30 w38 =>
 pIf x30
 (pN Tryd.prog (oFld 34 x3 3) w38 fun x31 w39 =>
 pN Tryd.prog (oLoad 3 x31) w39 fun x32 w40 =>
 I14 x32 w40)
 (pN Tryd.prog (oBin .eql 3 (.tmp 26) (.const (.int .i64 3)) x26 (.int .i64 3)) w38 fun x34 w41 =>
 pIf x34
 (pDr w41 fun w42 =>
 pA Tryd.prog (oNil x0) fun x36 =>
 pA Tryd.prog (oFld 54 x36 0) fun x37 =>
 pL Tryd.prog (oLoad 49 x37) w42 fun x38 =>
 pA Tryd.prog (oFld 34 x3 3) fun x39 =>
 pL Tryd.prog (oLoad 3 x39) w42 fun x40 =>
 pA Tryd.prog (oNil x38) fun x41 =>
 pA Tryd.prog (oFld 67 x41 1) fun x42 =>
 pA Tryd.prog (oFld 60 x42 1) fun x43 =>
 pA Tryd.prog (oIdx 58 x43 x40) fun x44 =>
 pL Tryd.prog (oLoad 3 x44) w42 fun x45 =>
 I14 x45 w42)
 (pN Tryd.prog (oBin .eql 3 (.tmp 26) (.const (.int .i64 4)) x26 (.int .i64 4)) w41 fun x47 w43 =>
 pIf x47
 (pN Tryd.prog (oNil x0) w43 fun x49 w44 =>
 pN Tryd.prog (oFld 54 x49 0) w44 fun x50 w45 =>
 pN Tryd.prog (oLoad 49 x50) w45 fun x51 w46 =>
 pN Tryd.prog (oNil x51) w46 fun x52 w47 =>
 pN Tryd.prog (oFld 67 x52 1) w47 fun x53 w48 =>
 pN Tryd.prog (oFld 60 x53 1) w48 fun x54 w49 =>
 pN Tryd.prog (oIdx 58 x54 (.int .i64 0)) w49 fun x55 w50 =>
 pN Tryd.prog (oLoad 3 x55) w50 fun x56 w51 =>
 I14 x56 w51)
 (I14 (.int .i64 0) w43))))) ∧
 ∀ (_j14 : Env) (dist7c14 : Value) (w52 : World), I14 dist7c14 w52 →
 pN Tryd.prog (oNil x0) w52 fun x59 w53 =>
 pN Tryd.prog (oFld 54 x59 1) w53 fun x60 w54 =>
 pN Tryd.prog (oLoad 46 x60) w54 fun x61 w55 =>
 pN Tryd.prog (oCall 32 [x61, dist7c14]) w55 fun x63 w56 =>
 pN Tryd.prog (oExt x63 0) w56 fun _ w57 =>
 pN Tryd.prog (oExt x63 1) w57 fun x65 w58 =>
 Q x65 w58)))))
noncomputable def lzenc_Encoder_may.c : Code := match Tryd.f20.body with | some c => c | none => .skip
theorem lzenc_Encoder_may.eq [Pan] (x0 : Value) (x1 : Value) (w : World) (Q : Value → World → Prop) : cw Tryd.prog lzenc_Encoder_may.H lzenc_Encoder_may.c (endQ Tryd.prog Tryd.f20.results.toList Q) (argsE [x0, x1]) w = lzenc_Encoder_may.F x0 x1 w Q := by kernel_rfl
theorem lzenc_Encoder_may.calls [Pan] {x0 : Value} {x1 : Value} {w : World} {Q : Value → World → Prop} (h : lzenc_Encoder_may.F x0 x1 w Q) : Calls Tryd.prog 20 #[x0, x1] w (retP Q) :=
  calls_of_cw (H := lzenc_Encoder_may.H) (c := lzenc_Encoder_may.c) (args := [x0, x1]) mixed Tryd.func20 (by kernel_rfl) (by kernel_rfl) (Nat.le_of_ble_eq_true (by kernel_rfl)) ((lzenc_Encoder_may.eq x0 x1 w Q).mpr h)

/-! lzenc_Encoder_code: (*pith/lzenc.Encoder).code; temporaries: 0:e 1:c 2:y 3:e 4:c 5:y 6:n 7:at -/
def lzenc_Encoder_code.H : Hints := { cut := fun | 21 => some ([], 13164036458569648337239709904315838159738563613118887640457805824) | _ => none, loop := fun  | _ => ([], 0), order := fun | 1 => [(0, 0), (1, 1), (2, 3), (3, 7), (4, 15), (5, 31), (6, 63), (7, 127), (8, 255), (9, 511), (10, 1023), (11, 2047), (12, 4095), (13, 8191), (14, 16383), (15, 32767), (16, 65535), (17, 131071), (18, 262143), (19, 524287)] | 3 => [(0, 0), (1, 1), (2, 3), (3, 7), (4, 15), (5, 31), (6, 63), (7, 127), (8, 255), (9, 511), (10, 1023), (11, 2047), (12, 4095)] | 5 => [(0, 0), (1, 1), (2, 3), (3, 7), (4, 15), (5, 31), (6, 63), (7, 127), (8, 255), (9, 511), (10, 1023), (11, 2047), (12, 4095)] | 7 => [(0, 0), (1, 1), (2, 3), (3, 7), (4, 15), (5, 31), (6, 63), (7, 127), (8, 255), (9, 511), (10, 1023), (11, 2047), (12, 4095)] | 8 => [(0, 0), (1, 1), (2, 3), (3, 7), (4, 15), (5, 31), (6, 63), (7, 127), (8, 255), (9, 511), (10, 1023), (11, 2047)] | 10 => [(0, 0), (1, 1), (2, 3), (3, 7), (4, 15), (5, 31), (6, 63), (7, 127), (8, 255), (9, 511), (10, 1023), (11, 2047), (12, 4095)] | 12 => [(0, 0), (1, 1), (2, 3), (3, 7), (4, 15), (5, 31), (6, 63), (7, 127), (8, 255), (9, 511), (10, 1023), (11, 2047), (12, 4095)] | 13 => [(0, 0), (1, 1), (2, 3), (3, 7), (4, 15), (5, 31), (6, 63), (7, 127), (8, 255), (9, 511), (10, 1023), (11, 2047), (12, 4095)] | 15 => [(0, 0), (1, 1), (2, 3), (3, 7), (4, 15), (5, 31), (6, 63), (7, 127), (8, 255), (9, 511), (10, 1023), (11, 2047), (12, 4095)] | 16 => [(0, 0), (1, 1), (2, 3), (3, 7), (4, 15), (5, 31), (6, 63), (7, 127), (8, 255), (9, 511), (10, 1023), (11, 2047), (12, 4095)] | 17 => [(0, 0), (1, 1), (2, 3), (3, 7), (4, 15), (5, 31), (6, 63), (7, 127), (8, 255), (9, 511), (10, 1023), (11, 2047), (12, 4095)] | 18 => [(0, 0), (1, 1), (2, 3), (3, 7), (4, 15), (5, 31), (6, 63), (7, 127), (8, 255), (9, 511), (10, 1023), (11, 2047), (12, 4095), (13, 8191), (14, 16383), (15, 32767), (16, 65535)] | 20 => [(0, 0), (1, 1), (2, 3), (3, 7), (4, 15), (5, 31), (6, 63), (7, 127), (8, 255), (9, 511), (10, 1023), (11, 2047), (12, 4095), (13, 8191), (14, 16383), (15, 32767)] | 21 => [(0, 0), (1, 1), (2, 3), (3, 7), (4, 15), (5, 31), (6, 63), (7, 127), (8, 255), (9, 511), (10, 1023), (11, 2047)] | _ => [] }
def lzenc_Encoder_code.F [Pan] (x0 : Value) (x1 : Value) (x2 : Value) (w : World) (Q : Value → World → Prop) : Prop :=
 pN Tryd.prog (oBox 34 x2) w fun x5 w1 =>
 pDr w1 fun w2 =>
 pA Tryd.prog (oNil x0) fun x9 =>
 pA Tryd.prog (oFld 54 x9 0) fun x10 =>
 pL Tryd.prog (oLoad 49 x10) w2 fun x11 =>
 pA Tryd.prog (oNil x11) fun x12 =>
 pA Tryd.prog (oFld 67 x12 1) fun x13 =>
 pA Tryd.prog (oFld 60 x13 0) fun x14 =>
 pL Tryd.prog (oLoad 3 x14) w2 fun x15 =>
 pA Tryd.prog (oNil x0) fun x17 =>
 pA Tryd.prog (oFld 54 x17 0) fun x18 =>
 pL Tryd.prog (oLoad 49 x18) w2 fun x19 =>
 pA Tryd.prog (oNil x0) fun x21 =>
 pA Tryd.prog (oFld 54 x21 1) fun x22 =>
 pL Tryd.prog (oLoad 46 x22) w2 fun x23 =>
 pN Tryd.prog (oCall 34 [x23]) w2 fun x24 w3 =>
 ((Sem.run Tryd.prog (oLoad 49 x18) w3 = .ok (.value x19) w3) ∧ (Sem.run Tryd.prog (oLoad 3 x14) w3 = .ok (.value x15) w3) ∧ (Sem.run Tryd.prog (oLoad 49 x10) w3 = .ok (.value x11) w3) ∧ True) ∧ (pN Tryd.prog (oCall 33 [x19, x24]) w3 fun x25 w4 =>
 ((Sem.run Tryd.prog (oLoad 3 x14) w4 = .ok (.value x15) w4) ∧ (Sem.run Tryd.prog (oLoad 49 x10) w4 = .ok (.value x11) w4) ∧ True) ∧ (pN Tryd.prog (oFld 34 x5 0) w4 fun x26 w5 =>
 pN Tryd.prog (oLoad 3 x26) w5 fun x27 w6 =>
 pN Tryd.prog (oBin .eql 3 (.tmp 27) (.const (.int .i64 1)) x27 (.int .i64 1)) w6 fun x28 w7 =>
 pIf x28
 (pDr w7 fun w8 =>
 pA Tryd.prog (oNil x0) fun x31 =>
 pA Tryd.prog (oFld 54 x31 0) fun x32 =>
 pL Tryd.prog (oLoad 49 x32) w8 fun x33 =>
 pA Tryd.prog (oNil x33) fun x34 =>
 pA Tryd.prog (oFld 67 x34 2) fun x35 =>
 pL Tryd.prog (oLoad 63 x35) w8 fun x36 =>
 pN Tryd.prog (oFn (.method "pith/lzenc.bit") [x1] []) w8 fun x38 w9 =>
 ((Sem.run Tryd.prog (oLoad 63 x35) w9 = .ok (.value x36) w9) ∧ (Sem.run Tryd.prog (oLoad 49 x32) w9 = .ok (.value x33) w9) ∧ True) ∧ (pA Tryd.prog (oNil x38) fun _ =>
 pN Tryd.prog (oInv x1 "pith/lzenc.bit" [x36, x25, (.int .i64 0)]) w9 fun _ w10 =>
 (True) ∧ (pN Tryd.prog (oFld 34 x5 1) w10 fun x44 w11 =>
 pN Tryd.prog (oLoad 5 x44) w11 fun x45 w12 =>
 pN Tryd.prog (oConv 5 3 x45) w12 fun x46 w13 =>
 pN Tryd.prog (oCall 35 [x0, x1, x46]) w13 fun _ w14 =>
 Q (.tuple #[]) w14)))
 (pDr w7 fun w15 =>
 pA Tryd.prog (oNil x0) fun x50 =>
 pA Tryd.prog (oFld 54 x50 0) fun x51 =>
 pL Tryd.prog (oLoad 49 x51) w15 fun x52 =>
 pA Tryd.prog (oNil x52) fun x53 =>
 pA Tryd.prog (oFld 67 x53 2) fun x54 =>
 pL Tryd.prog (oLoad 63 x54) w15 fun x55 =>
 pN Tryd.prog (oFn (.method "pith/lzenc.bit") [x1] []) w15 fun x57 w16 =>
 ((Sem.run Tryd.prog (oLoad 63 x54) w16 = .ok (.value x55) w16) ∧ (Sem.run Tryd.prog (oLoad 49 x51) w16 = .ok (.value x52) w16) ∧ True) ∧ (pA Tryd.prog (oNil x57) fun _ =>
 pN Tryd.prog (oInv x1 "pith/lzenc.bit" [x55, x25, (.int .i64 1)]) w16 fun _ w17 =>
 (True) ∧ (pN Tryd.prog (oFld 34 x5 0) w17 fun x61 w18 =>
 pN Tryd.prog (oLoad 3 x61) w18 fun x62 w19 =>
 pN Tryd.prog (oBin .eql 3 (.tmp 62) (.const (.int .i64 2)) x62 (.int .i64 2)) w19 fun x63 w20 =>
 pIf x63
 (pDr w20 fun w21 =>
 pA Tryd.prog (oNil x0) fun x66 =>
 pA Tryd.prog (oFld 54 x66 0) fun x67 =>
 pL Tryd.prog (oLoad 49 x67) w21 fun x68 =>
 pA Tryd.prog (oNil x68) fun x69 =>
 pA Tryd.prog (oFld 67 x69 4) fun x70 =>
 pL Tryd.prog (oLoad 63 x70) w21 fun x71 =>
 pN Tryd.prog (oFn (.method "pith/lzenc.bit") [x1] []) w21 fun x73 w22 =>
 ((Sem.run Tryd.prog (oLoad 63 x70) w22 = .ok (.value x71) w22) ∧ (Sem.run Tryd.prog (oLoad 49 x67) w22 = .ok (.value x68) w22) ∧ True) ∧ (pA Tryd.prog (oNil x73) fun _ =>
 pN Tryd.prog (oInv x1 "pith/lzenc.bit" [x71, x15, (.int .i64 0)]) w22 fun _ w23 =>
 (True) ∧ (pDr w23 fun w24 =>
 pA Tryd.prog (oNil x0) fun x80 =>
 pA Tryd.prog (oFld 54 x80 0) fun x81 =>
 pL Tryd.prog (oLoad 49 x81) w24 fun x82 =>
 pA Tryd.prog (oNil x82) fun x83 =>
 pA Tryd.prog (oFld 67 x83 9) fun x84 =>
 pL Tryd.prog (oLoad 65 x84) w24 fun x85 =>
 pA Tryd.prog (oFld 34 x5 2) fun x86 =>
 pL Tryd.prog (oLoad 3 x86) w24 fun x87 =>
 pN Tryd.prog (oCall 36 [x0, x1, x85, x87]) w24 fun _ w25 =>
 (True) ∧ (pN Tryd.prog (oLoad 34 x5) w25 fun x91 w26 =>
 pN Tryd.prog (oCall 37 [x0, x1, x91]) w26 fun _ w27 =>
 Q (.tuple #[]) w27))))
 (pDr w20 fun w28 =>
 pA Tryd.prog (oNil x0) fun x95 =>
 pA Tryd.prog (oFld 54 x95 0) fun x96 =>
 pL Tryd.prog (oLoad 49 x96) w28 fun x97 =>
 pA Tryd.prog (oNil x97) fun x98 =>
 pA Tryd.prog (oFld 67 x98 4) fun x99 =>
 pL Tryd.prog (oLoad 63 x99) w28 fun x100 =>
 pN Tryd.prog (oFn (.method "pith/lzenc.bit") [x1] []) w28 fun x102 w29 =>
 ((Sem.run Tryd.prog (oLoad 63 x99) w29 = .ok (.value x100) w29) ∧ (Sem.run Tryd.prog (oLoad 49 x96) w29 = .ok (.value x97) w29) ∧ True) ∧ (pA Tryd.prog (oNil x102) fun _ =>
 pN Tryd.prog (oInv x1 "pith/lzenc.bit" [x100, x15, (.int .i64 1)]) w29 fun _ w30 =>
 (True) ∧ (pN Tryd.prog (oFld 34 x5 0) w30 fun x106 w31 =>
 pN Tryd.prog (oLoad 3 x106) w31 fun x107 w32 =>
 pN Tryd.prog (oBin .eql 3 (.tmp 107) (.const (.int .i64 4)) x107 (.int .i64 4)) w32 fun x108 w33 =>
 pIf x108
 (pDr w33 fun w34 =>
 pA Tryd.prog (oNil x0) fun x111 =>
 pA Tryd.prog (oFld 54 x111 0) fun x112 =>
 pL Tryd.prog (oLoad 49 x112) w34 fun x113 =>
 pA Tryd.prog (oNil x113) fun x114 =>
 pA Tryd.prog (oFld 67 x114 5) fun x115 =>
 pL Tryd.prog (oLoad 63 x115) w34 fun x116 =>
 pN Tryd.prog (oFn (.method "pith/lzenc.bit") [x1] []) w34 fun x118 w35 =>
 ((Sem.run Tryd.prog (oLoad 63 x115) w35 = .ok (.value x116) w35) ∧ (Sem.run Tryd.prog (oLoad 49 x112) w35 = .ok (.value x113) w35) ∧ True) ∧ (pA Tryd.prog (oNil x118) fun _ =>
 pN Tryd.prog (oInv x1 "pith/lzenc.bit" [x116, x15, (.int .i64 0)]) w35 fun _ w36 =>
 (True) ∧ (pDr w36 fun w37 =>
 pA Tryd.prog (oNil x0) fun x124 =>
 pA Tryd.prog (oFld 54 x124 0) fun x125 =>
 pL Tryd.prog (oLoad 49 x125) w37 fun x126 =>
 pA Tryd.prog (oNil x126) fun x127 =>
 pA Tryd.prog (oFld 67 x127 3) fun x128 =>
 pL Tryd.prog (oLoad 63 x128) w37 fun x129 =>
 pN Tryd.prog (oFn (.method "pith/lzenc.bit") [x1] []) w37 fun x131 w38 =>
 ((Sem.run Tryd.prog (oLoad 63 x128) w38 = .ok (.value x129) w38) ∧ (Sem.run Tryd.prog (oLoad 49 x125) w38 = .ok (.value x126) w38) ∧ True) ∧ (pA Tryd.prog (oNil x131) fun _ =>
 pN Tryd.prog (oInv x1 "pith/lzenc.bit" [x129, x25, (.int .i64 0)]) w38 fun _ w39 =>
 (True) ∧ (Q (.tuple #[]) w39)))))
 (∃ I21 : World → Prop,
 (pN Tryd.prog (oFld 34 x5 3) w33 fun x135 w40 =>
 pN Tryd.prog (oLoad 3 x135) w40 fun x136 w41 =>
 pN Tryd.prog (oBin .eql 3 (.tmp 136) (.const (.int .i64 0)) x136 (.int .i64 0)) w41 fun x137 w42 =>
 pIf x137
 (pDr w42 fun w43 =>
 pA Tryd.prog (oNil x0) fun x140 =>
 pA Tryd.prog (oFld 54 x140 0) fun x141 =>
 pL Tryd.prog (oLoad 49 x141) w43 fun x142 =>
 pA Tryd.prog (oNil x142) fun x143 =>
 pA Tryd.prog (oFld 67 x143 5) fun x144 =>
 pL Tryd.prog (oLoad 63 x144) w43 fun x145 =>
 pN Tryd.prog (oFn (.method "pith/lzenc.bit") [x1] []) w43 fun x147 w44 =>
 ((Sem.run Tryd.prog (oLoad 63 x144) w44 = .ok (.value x145) w44) ∧ (Sem.run Tryd.prog (oLoad 49 x141) w44 = .ok (.value x142) w44) ∧ True) ∧ (pA Tryd.prog (oNil x147) fun _ =>
 pN Tryd.prog (oInv x1 "pith/lzenc.bit" [x145, x15, (.int .i64 0)]) w44 fun _ w45 =>
 (True) ∧ (pDr w45 fun w46 =>
 pA Tryd.prog (oNil x0) fun x153 =>
 pA Tryd.prog (oFld 54 x153 0) fun x154 =>
 pL Tryd.prog (oLoad 49 x154) w46 fun x155 =>
 pA Tryd.prog (oNil x155) fun x156 =>
 pA Tryd.prog (oFld 67 x156 3) fun x157 =>
 pL Tryd.prog (oLoad 63 x157) w46 fun x158 =>
 pN Tryd.prog (oFn (.method "pith/lzenc.bit") [x1] []) w46 fun x160 w47 =>
 ((Sem.run Tryd.prog (oLoad 63 x157) w47 = .ok (.value x158) w47) ∧ (Sem.run Tryd.prog (oLoad 49 x154) w47 = .ok (.value x155) w47) ∧ True) ∧ (pA Tryd.prog (oNil x160) fun _ =>
 pN Tryd.prog (oInv x1 "pith/lzenc.bit" [x158, x25, (.int .i64 1)]) w47 fun _ w48 =>
 (True) ∧ (I21 w48)))))
 (pDr w42 fun w49 =>
 pA Tryd.prog (oNil x0) fun x166 =>
 pA Tryd.prog (oFld 54 x166 0) fun x167 =>
 pL Tryd.prog (oLoad 49 x167) w49 fun x168 =>
 pA Tryd.prog (oNil x168) fun x169 =>
 pA Tryd.prog (oFld 67 x169 5) fun x170 =>
 pL Tryd.prog (oLoad 63 x170) w49 fun x171 =>
 pN Tryd.prog (oFn (.method "pith/lzenc.bit") [x1] []) w49 fun x173 w50 =>
 ((Sem.run Tryd.prog (oLoad 63 x170) w50 = .ok (.value x171) w50) ∧ (Sem.run Tryd.prog (oLoad 49 x167) w50 = .ok (.value x168) w50) ∧ True) ∧ (pA Tryd.prog (oNil x173) fun _ =>
 pN Tryd.prog (oInv x1 "pith/lzenc.bit" [x171, x15, (.int .i64 1)]) w50 fun _ w51 =>
 (True) ∧ (pDr w51 fun w52 =>
 pA Tryd.prog (oNil x0) fun x179 =>
 pA Tryd.prog (oFld 54 x179 0) fun x180 =>
 pL Tryd.prog (oLoad 49 x180) w52 fun x181 =>
 pA Tryd.prog (oNil x181) fun x182 =>
 pA Tryd.prog (oFld 67 x182 6) fun x183 =>
 pL Tryd.prog (oLoad 63 x183) w52 fun x184 =>
 pA Tryd.prog (oFld 34 x5 3) fun x186 =>
 pL Tryd.prog (oLoad 3 x186) w52 fun x187 =>
 pA Tryd.prog (oBin .sub 3 (.tmp 187) (.const (.int .i64 1)) x187 (.int .i64 1)) fun x188 =>
 pA Tryd.prog (oBi .min #[3, 3] 3 [false, true] [x188, (.int .i64 1)]) fun x189 =>
 pN Tryd.prog (oFn (.method "pith/lzenc.bit") [x1] []) w52 fun x190 w53 =>
 ((Sem.run Tryd.prog (oLoad 3 x186) w53 = .ok (.value x187) w53) ∧ (Sem.run Tryd.prog (oLoad 63 x183) w53 = .ok (.value x184) w53) ∧ (Sem.run Tryd.prog (oLoad 49 x180) w53 = .ok (.value x181) w53) ∧ True) ∧ (pA Tryd.prog (oNil x190) fun _ =>
 pN Tryd.prog (oInv x1 "pith/lzenc.bit" [x184, x15, x189]) w53 fun _ w54 =>
 (True) ∧ (pN Tryd.prog (oFld 34 x5 3) w54 fun x194 w55 =>
 pN Tryd.prog (oLoad 3 x194) w55 fun x195 w56 =>
 pN Tryd.prog (oBin .gtr 3 (.tmp 195) (.const (.int .i64 1)) x195 (.int .i64 1)) w56 fun x196 w57 =>
 pIf x196
 (pDr w57 fun w58 =>
 pA Tryd.prog (oNil x0) fun x199 =>
 pA Tryd.prog (oFld 54 x199 0) fun x200 =>
 pL Tryd.prog (oLoad 49 x200) w58 fun x201 =>
 pA Tryd.prog (oNil x201) fun x202 =>
 pA Tryd.prog (oFld 67 x202 7) fun x203 =>
 pL Tryd.prog (oLoad 63 x203) w58 fun x204 =>
 pA Tryd.prog (oFld 34 x5 3) fun x206 =>
 pL Tryd.prog (oLoad 3 x206) w58 fun x207 =>
 pA Tryd.prog (oBin .sub 3 (.tmp 207) (.const (.int .i64 2)) x207 (.int .i64 2)) fun x208 =>
 pN Tryd.prog (oFn (.method "pith/lzenc.bit") [x1] []) w58 fun x209 w59 =>
 ((Sem.run Tryd.prog (oLoad 3 x206) w59 = .ok (.value x207) w59) ∧ (Sem.run Tryd.prog (oLoad 63 x203) w59 = .ok (.value x204) w59) ∧ (Sem.run Tryd.prog (oLoad 49 x200) w59 = .ok (.value x201) w59) ∧ True) ∧ (pA Tryd.prog (oNil x209) fun _ =>
 pN Tryd.prog (oInv x1 "pith/lzenc.bit" [x204, x15, x208]) w59 fun _ w60 =>
 (True) ∧ (I21 w60)))
 (I21 w57))))))) ∧
 ∀ (_j21 : Env) (w61 : World), I21 w61 →
 pDr w61 fun w62 =>
 pA Tryd.prog (oNil x0) fun x216 =>
 pA Tryd.prog (oFld 54 x216 0) fun x217 =>
 pL Tryd.prog (oLoad 49 x217) w62 fun x218 =>
 pA Tryd.prog (oNil x218) fun x219 =>
 pA Tryd.prog (oFld 67 x219 10) fun x220 =>
 pL Tryd.prog (oLoad 65 x220) w62 fun x221 =>
 pA Tryd.prog (oFld 34 x5 2) fun x222 =>
 pL Tryd.prog (oLoad 3 x222) w62 fun x223 =>
 pN Tryd.prog (oCall 36 [x0, x1, x221, x223]) w62 fun _ w63 =>
 (True) ∧ (Q (.tuple #[]) w63))))))))))
noncomputable def lzenc_Encoder_code.c : Code := match Tryd.f21.body with | some c => c | none => .skip
theorem lzenc_Encoder_code.eq [Pan] (x0 : Value) (x1 : Value) (x2 : Value) (w : World) (Q : Value → World → Prop) : cw Tryd.prog lzenc_Encoder_code.H lzenc_Encoder_code.c (endQ Tryd.prog Tryd.f21.results.toList Q) (argsE [x0, x1, x2]) w = lzenc_Encoder_code.F x0 x1 x2 w Q := by kernel_rfl
theorem lzenc_Encoder_code.calls [Pan] {x0 : Value} {x1 : Value} {x2 : Value} {w : World} {Q : Value → World → Prop} (h : lzenc_Encoder_code.F x0 x1 x2 w Q) : Calls Tryd.prog 21 #[x0, x1, x2] w (retP Q) :=
  calls_of_cw (H := lzenc_Encoder_code.H) (c := lzenc_Encoder_code.c) (args := [x0, x1, x2]) mixed Tryd.func21 (by kernel_rfl) (by kernel_rfl) (Nat.le_of_ble_eq_true (by kernel_rfl)) ((lzenc_Encoder_code.eq x0 x1 x2 w Q).mpr h)

/-! lzenc_Encoder_literal: (*pith/lzenc.Encoder).literal; temporaries: 0:e 1:c 2:b 3:e 4:c 5:b 6:before 7:_ 8:from 9:last 10:_ 11:t 12:same 13:i 14:m 15:bit 16:u 17:at -/
def lzenc_Encoder_literal.H : Hints := { cut := fun | 8 => some ([12, 14], 10633823966274491279951997965544181760) | 13 => some ([17], 623921779799831658549158739968) | _ => none, loop := fun | 7 => ([12, 13, 14], 10633823966279024751775552824949338112) | _ => ([], 0), order := fun | 1 => [(0, 0), (1, 1), (2, 3), (3, 7), (4, 15), (5, 31), (6, 63), (7, 127), (9, 255), (8, 767), (10, 1023), (11, 2047)] | 3 => [(0, 0), (1, 1), (2, 3), (3, 7), (4, 15), (5, 31), (6, 63), (7, 127), (8, 255), (9, 511), (10, 1023), (11, 2047), (12, 4095), (13, 8191)] | 4 => [(0, 0), (1, 1), (2, 3), (3, 7), (4, 15), (5, 31), (6, 63), (7, 127), (8, 255), (9, 511), (10, 1023), (11, 2047), (12, 4095), (13, 8191), (14, 16383), (15, 32767), (16, 65535), (17, 131071), (18, 262143)] | 9 => [(0, 0), (1, 1), (2, 3), (3, 7), (4, 15), (5, 31), (6, 63), (7, 127), (8, 255), (9, 511)] | 13 => [(0, 0), (1, 1), (2, 3), (3, 7), (4, 15), (5, 31), (6, 63), (7, 127), (8, 255), (9, 511), (10, 1023), (11, 2047), (12, 4095), (13, 8191)] | _ => [] }
def lzenc_Encoder_literal.F [Pan] (x0 : Value) (x1 : Value) (x2 : Value) (w : World) (Q : Value → World → Prop) : Prop :=
 pN Tryd.prog (oNil x0) w fun x20 w1 =>
 pN Tryd.prog (oFld 54 x20 1) w1 fun x21 w2 =>
 pN Tryd.prog (oLoad 46 x21) w2 fun x22 w3 =>
 pN Tryd.prog (oCall 32 [x22, (.int .i64 1)]) w3 fun x23 w4 =>
 pN Tryd.prog (oExt x23 0) w4 fun x24 w5 =>
 pN Tryd.prog (oExt x23 1) w5 fun _ w6 =>
 pDr w6 fun w7 =>
 pA Tryd.prog (oNil x0) fun x27 =>
 pA Tryd.prog (oFld 54 x27 0) fun x28 =>
 pL Tryd.prog (oLoad 49 x28) w7 fun x29 =>
 pA Tryd.prog (oNil x0) fun x31 =>
 pA Tryd.prog (oFld 54 x31 1) fun x32 =>
 pL Tryd.prog (oLoad 46 x32) w7 fun x33 =>
 pN Tryd.prog (oCall 34 [x33]) w7 fun x34 w8 =>
 ((Sem.run Tryd.prog (oLoad 49 x28) w8 = .ok (.value x29) w8) ∧ True) ∧ (pN Tryd.prog (oCall 50 [x29, x34, x24]) w8 fun x36 w9 =>
 (True) ∧ (pN Tryd.prog (oNil x0) w9 fun x38 w10 =>
 pN Tryd.prog (oFld 54 x38 0) w10 fun x39 w11 =>
 pN Tryd.prog (oLoad 49 x39) w11 fun x40 w12 =>
 pN Tryd.prog (oNil x40) w12 fun x41 w13 =>
 pN Tryd.prog (oFld 67 x41 1) w13 fun x42 w14 =>
 pN Tryd.prog (oLoad 60 x42) w14 fun x43 w15 =>
 pN Tryd.prog (oCall 51 [x43]) w15 fun x44 w16 =>
 pIf x44
 (pDr w16 fun w17 =>
 pA Tryd.prog (oNil x0) fun x47 =>
 pA Tryd.prog (oFld 54 x47 0) fun x48 =>
 pL Tryd.prog (oLoad 49 x48) w17 fun x49 =>
 pA Tryd.prog (oNil x49) fun x50 =>
 pA Tryd.prog (oFld 67 x50 8) fun x51 =>
 pL Tryd.prog (oLoad 63 x51) w17 fun x52 =>
 pN Tryd.prog (oFn (.method "pith/lzenc.tree") [x1] []) w17 fun x55 w18 =>
 ((Sem.run Tryd.prog (oLoad 63 x51) w18 = .ok (.value x52) w18) ∧ (Sem.run Tryd.prog (oLoad 49 x48) w18 = .ok (.value x49) w18) ∧ True) ∧ (pA Tryd.prog (oNil x55) fun _ =>
 pN Tryd.prog (oInv x1 "pith/lzenc.tree" [x52, x36, (.int .i64 8), x2]) w18 fun _ w19 =>
 (True) ∧ (Q (.tuple #[]) w19)))
 (pDr w16 fun w20 =>
 pA Tryd.prog (oNil x0) fun x61 =>
 pA Tryd.prog (oFld 54 x61 1) fun x62 =>
 pL Tryd.prog (oLoad 46 x62) w20 fun x63 =>
 pA Tryd.prog (oNil x0) fun x65 =>
 pA Tryd.prog (oFld 54 x65 0) fun x66 =>
 pL Tryd.prog (oLoad 49 x66) w20 fun x67 =>
 pA Tryd.prog (oNil x67) fun x68 =>
 pA Tryd.prog (oFld 67 x68 1) fun x69 =>
 pA Tryd.prog (oFld 60 x69 1) fun x70 =>
 pA Tryd.prog (oIdx 58 x70 (.int .i64 0)) fun x71 =>
 pL Tryd.prog (oLoad 3 x71) w20 fun x72 =>
 pN Tryd.prog (oCall 32 [x63, x72]) w20 fun x73 w21 =>
 (True) ∧ (pA Tryd.prog (oExt x73 0) fun x74 =>
 pA Tryd.prog (oExt x73 1) fun _ =>
 pN Tryd.prog (oConv 5 3 x74) w21 fun x77 w22 =>
 ∃ (L7 : Value → Value → Value → World → Prop) (m7 : Value → Value → Value → World → Nat),
 L7 (.bool true) (.int .i64 7) (.int .i64 1) w22 ∧
 ∀ (_k7 : Env) (same12l7 : Value) (i13l7 : Value) (m14l7 : Value) (w23 : World), L7 same12l7 i13l7 m14l7 w23 →
 pN Tryd.prog (oBin .geq 3 (.tmp 78) (.const (.int .i64 0)) i13l7 (.int .i64 0)) w23 fun x79 w24 =>
 pIf x79
 (∃ I8 : Value → Value → World → Prop,
 (pDr w24 fun w25 =>
 pA Tryd.prog (oBin .shr 3 (.tmp 82) (.tmp 83) x2 i13l7) fun x84 =>
 pA Tryd.prog (oBin .and 3 (.tmp 84) (.const (.int .i64 1)) x84 (.int .i64 1)) fun x85 =>
 pA Tryd.prog (oBin .shr 3 (.tmp 86) (.tmp 87) x77 i13l7) fun x88 =>
 pA Tryd.prog (oBin .and 3 (.tmp 88) (.const (.int .i64 1)) x88 (.int .i64 1)) fun x89 =>
 pN Tryd.prog (oBin .add 3 (.tmp 90) (.tmp 91) x36 m14l7) w25 fun x92 w26 =>
 ∃ I13 : Value → World → Prop,
 (pIf same12l7
 (pN Tryd.prog (oBin .add 3 (.const (.int .i64 1)) (.tmp 95) (.int .i64 1) x89) w26 fun x96 w27 =>
 pN Tryd.prog (oBin .mul 3 (.const (.int .i64 256)) (.tmp 96) (.int .i64 256) x96) w27 fun x97 w28 =>
 pN Tryd.prog (oBin .add 3 (.tmp 94) (.tmp 97) x92 x97) w28 fun x98 w29 =>
 I13 x98 w29)
 (I13 x92 w26)) ∧
 ∀ (_j13 : Env) (at17c13 : Value) (w30 : World), I13 at17c13 w30 →
 pDr w30 fun w31 =>
 pA Tryd.prog (oNil x0) fun x101 =>
 pA Tryd.prog (oFld 54 x101 0) fun x102 =>
 pL Tryd.prog (oLoad 49 x102) w31 fun x103 =>
 pA Tryd.prog (oNil x103) fun x104 =>
 pA Tryd.prog (oFld 67 x104 8) fun x105 =>
 pL Tryd.prog (oLoad 63 x105) w31 fun x106 =>
 pN Tryd.prog (oFn (.method "pith/lzenc.bit") [x1] []) w31 fun x109 w32 =>
 ((Sem.run Tryd.prog (oLoad 63 x105) w32 = .ok (.value x106) w32) ∧ (Sem.run Tryd.prog (oLoad 49 x102) w32 = .ok (.value x103) w32) ∧ True) ∧ (pA Tryd.prog (oNil x109) fun _ =>
 pN Tryd.prog (oInv x1 "pith/lzenc.bit" [x106, at17c13, x85]) w32 fun _ w33 =>
 (True) ∧ (pGd (gB same12l7 true) (pN Tryd.prog (oMv x85) w33) w33 fun x115 w34 =>
 pGd (gB same12l7 true) (pN Tryd.prog (oMv x89) w34) w34 fun x116 w35 =>
 pGd (gB same12l7 true) (pN Tryd.prog (oBin .eql 3 (.tmp 115) (.tmp 116) x115 x116) w35) w35 fun x117 w36 =>
 pN Tryd.prog (oPick same12l7 x117 (.bool false)) w36 fun x118 w37 =>
 pN Tryd.prog (oBin .mul 3 (.const (.int .i64 2)) (.tmp 119) (.int .i64 2) m14l7) w37 fun x120 w38 =>
 pN Tryd.prog (oBin .add 3 (.tmp 120) (.tmp 121) x120 x85) w38 fun x122 w39 =>
 I8 x118 x122 w39))) ∧
 ∀ (_j8 : Env) (same12c8 : Value) (m14c8 : Value) (w40 : World), I8 same12c8 m14c8 w40 →
 pN Tryd.prog (oBin .sub 3 (.tmp 80) (.const (.int .i64 1)) i13l7 (.int .i64 1)) w40 fun x81 w41 =>
 (L7 same12c8 x81 m14c8 w41 ∧ m7 same12c8 x81 m14c8 w41 < m7 same12l7 i13l7 m14l7 w23))
 (Q (.tuple #[]) w24)))))
noncomputable def lzenc_Encoder_literal.c : Code := match Tryd.f35.body with | some c => c | none => .skip
theorem lzenc_Encoder_literal.eq [Pan] (x0 : Value) (x1 : Value) (x2 : Value) (w : World) (Q : Value → World → Prop) : cw Tryd.prog lzenc_Encoder_literal.H lzenc_Encoder_literal.c (endQ Tryd.prog Tryd.f35.results.toList Q) (argsE [x0, x1, x2]) w = lzenc_Encoder_literal.F x0 x1 x2 w Q := by kernel_rfl
theorem lzenc_Encoder_literal.calls [Pan] {x0 : Value} {x1 : Value} {x2 : Value} {w : World} {Q : Value → World → Prop} (h : lzenc_Encoder_literal.F x0 x1 x2 w Q) : Calls Tryd.prog 35 #[x0, x1, x2] w (retP Q) :=
  calls_of_cw (H := lzenc_Encoder_literal.H) (c := lzenc_Encoder_literal.c) (args := [x0, x1, x2]) mixed Tryd.func35 (by kernel_rfl) (by kernel_rfl) (Nat.le_of_ble_eq_true (by kernel_rfl)) ((lzenc_Encoder_literal.eq x0 x1 x2 w Q).mpr h)

/-! lzenc_Encoder_length: (*pith/lzenc.Encoder).length; temporaries: 0:e 1:c 2:l 3:n 4:e 5:c 6:l 7:n 8:x 9:at -/
def lzenc_Encoder_length.H : Hints := { cut := fun  | _ => none, loop := fun  | _ => ([], 0), order := fun | 1 => [(0, 0), (1, 1), (2, 3), (3, 7), (4, 15), (5, 31), (6, 63), (7, 127), (8, 255), (9, 511), (10, 1023), (11, 2047), (12, 4095), (13, 8191), (14, 16383)] | _ => [] }
def lzenc_Encoder_length.F [Pan] (x0 : Value) (x1 : Value) (x2 : Value) (x3 : Value) (w : World) (Q : Value → World → Prop) : Prop :=
 pN Tryd.prog (oBox 65 x2) w fun x6 w1 =>
 pDr w1 fun w2 =>
 pA Tryd.prog (oBin .sub 3 (.tmp 10) (.const (.int .i64 2)) x3 (.int .i64 2)) fun x11 =>
 pA Tryd.prog (oNil x0) fun x13 =>
 pA Tryd.prog (oFld 54 x13 0) fun x14 =>
 pL Tryd.prog (oLoad 49 x14) w2 fun x15 =>
 pA Tryd.prog (oNil x0) fun x17 =>
 pA Tryd.prog (oFld 54 x17 1) fun x18 =>
 pL Tryd.prog (oLoad 46 x18) w2 fun x19 =>
 pN Tryd.prog (oCall 34 [x19]) w2 fun x20 w3 =>
 ((Sem.run Tryd.prog (oLoad 49 x14) w3 = .ok (.value x15) w3) ∧ True) ∧ (pN Tryd.prog (oCall 49 [x15, x20]) w3 fun x21 w4 =>
 (True) ∧ (pA Tryd.prog (oBin .mul 3 (.const (.int .i64 8)) (.tmp 21) (.int .i64 8) x21) fun x22 =>
 pN Tryd.prog (oBin .lss 3 (.tmp 38) (.const (.int .i64 8)) x11 (.int .i64 8)) w4 fun x39 w5 =>
 pIf x39
 (pN Tryd.prog (oFld 65 x6 0) w5 fun x41 w6 =>
 pN Tryd.prog (oLoad 63 x41) w6 fun x42 w7 =>
 pN Tryd.prog (oInv x1 "pith/lzenc.bit" [x42, (.int .i64 0), (.int .i64 0)]) w7 fun _ w8 =>
 pN Tryd.prog (oFld 65 x6 1) w8 fun x45 w9 =>
 pN Tryd.prog (oLoad 63 x45) w9 fun x46 w10 =>
 pN Tryd.prog (oInv x1 "pith/lzenc.tree" [x46, x22, (.int .i64 3), x11]) w10 fun _ w11 =>
 Q (.tuple #[]) w11)
 (pN Tryd.prog (oBin .lss 3 (.tmp 51) (.const (.int .i64 16)) x11 (.int .i64 16)) w5 fun x52 w12 =>
 pIf x52
 (pN Tryd.prog (oFld 65 x6 0) w12 fun x54 w13 =>
 pN Tryd.prog (oLoad 63 x54) w13 fun x55 w14 =>
 pN Tryd.prog (oInv x1 "pith/lzenc.bit" [x55, (.int .i64 0), (.int .i64 1)]) w14 fun _ w15 =>
 pN Tryd.prog (oFld 65 x6 0) w15 fun x58 w16 =>
 pN Tryd.prog (oLoad 63 x58) w16 fun x59 w17 =>
 pN Tryd.prog (oInv x1 "pith/lzenc.bit" [x59, (.int .i64 1), (.int .i64 0)]) w17 fun _ w18 =>
 pN Tryd.prog (oFld 65 x6 2) w18 fun x62 w19 =>
 pN Tryd.prog (oLoad 63 x62) w19 fun x63 w20 =>
 pN Tryd.prog (oBin .sub 3 (.tmp 65) (.const (.int .i64 8)) x11 (.int .i64 8)) w20 fun x66 w21 =>
 pN Tryd.prog (oInv x1 "pith/lzenc.tree" [x63, x22, (.int .i64 3), x66]) w21 fun _ w22 =>
 Q (.tuple #[]) w22)
 (pN Tryd.prog (oFld 65 x6 0) w12 fun x24 w23 =>
 pN Tryd.prog (oLoad 63 x24) w23 fun x25 w24 =>
 pN Tryd.prog (oInv x1 "pith/lzenc.bit" [x25, (.int .i64 0), (.int .i64 1)]) w24 fun _ w25 =>
 pN Tryd.prog (oFld 65 x6 0) w25 fun x28 w26 =>
 pN Tryd.prog (oLoad 63 x28) w26 fun x29 w27 =>
 pN Tryd.prog (oInv x1 "pith/lzenc.bit" [x29, (.int .i64 1), (.int .i64 1)]) w27 fun _ w28 =>
 pN Tryd.prog (oFld 65 x6 3) w28 fun x32 w29 =>
 pN Tryd.prog (oLoad 63 x32) w29 fun x33 w30 =>
 pN Tryd.prog (oBin .sub 3 (.tmp 34) (.const (.int .i64 16)) x11 (.int .i64 16)) w30 fun x35 w31 =>
 pN Tryd.prog (oInv x1 "pith/lzenc.tree" [x33, (.int .i64 0), (.int .i64 8), x35]) w31 fun _ w32 =>
 Q (.tuple #[]) w32))))
noncomputable def lzenc_Encoder_length.c : Code := match Tryd.f36.body with | some c => c | none => .skip
theorem lzenc_Encoder_length.eq [Pan] (x0 : Value) (x1 : Value) (x2 : Value) (x3 : Value) (w : World) (Q : Value → World → Prop) : cw Tryd.prog lzenc_Encoder_length.H lzenc_Encoder_length.c (endQ Tryd.prog Tryd.f36.results.toList Q) (argsE [x0, x1, x2, x3]) w = lzenc_Encoder_length.F x0 x1 x2 x3 w Q := by kernel_rfl
theorem lzenc_Encoder_length.calls [Pan] {x0 : Value} {x1 : Value} {x2 : Value} {x3 : Value} {w : World} {Q : Value → World → Prop} (h : lzenc_Encoder_length.F x0 x1 x2 x3 w Q) : Calls Tryd.prog 36 #[x0, x1, x2, x3] w (retP Q) :=
  calls_of_cw (H := lzenc_Encoder_length.H) (c := lzenc_Encoder_length.c) (args := [x0, x1, x2, x3]) mixed Tryd.func36 (by kernel_rfl) (by kernel_rfl) (Nat.le_of_ble_eq_true (by kernel_rfl)) ((lzenc_Encoder_length.eq x0 x1 x2 x3 w Q).mpr h)

/-! lzenc_Encoder_distance: (*pith/lzenc.Encoder).distance; temporaries: 0:e 1:c 2:y 3:e 4:c 5:y 6:slot 7:_ 8:least 9:bits 10:_ 11:r -/
def lzenc_Encoder_distance.H : Hints := { cut := fun  | _ => none, loop := fun  | _ => ([], 0), order := fun | 3 => [(0, 0), (1, 1), (2, 3), (3, 7), (4, 15), (5, 31), (6, 63), (7, 127), (8, 255), (9, 511), (10, 1023), (11, 2047), (12, 4095), (13, 8191), (14, 16383), (15, 32767), (16, 65535), (17, 131071)] | 6 => [(0, 0), (1, 1), (2, 3), (3, 7), (4, 15), (5, 31), (6, 63), (7, 127), (8, 255), (9, 511), (10, 1023), (11, 2047), (12, 4095), (13, 8191)] | _ => [] }
def lzenc_Encoder_distance.F [Pan] (x0 : Value) (x1 : Value) (x2 : Value) (w : World) (Q : Value → World → Prop) : Prop :=
 pN Tryd.prog (oBox 34 x2) w fun x5 w1 =>
 pN Tryd.prog (oFld 34 x5 3) w1 fun x13 w2 =>
 pN Tryd.prog (oLoad 3 x13) w2 fun x14 w3 =>
 pN Tryd.prog (oCall 52 [x14]) w3 fun x15 w4 =>
 pN Tryd.prog (oExt x15 0) w4 fun x16 w5 =>
 pN Tryd.prog (oExt x15 1) w5 fun _ w6 =>
 pN Tryd.prog (oCall 53 [x16]) w6 fun x20 w7 =>
 pN Tryd.prog (oExt x20 0) w7 fun x21 w8 =>
 pN Tryd.prog (oExt x20 1) w8 fun x22 w9 =>
 pN Tryd.prog (oExt x20 2) w9 fun _ w10 =>
 pDr w10 fun w11 =>
 pA Tryd.prog (oNil x0) fun x26 =>
 pA Tryd.prog (oFld 54 x26 0) fun x27 =>
 pL Tryd.prog (oLoad 49 x27) w11 fun x28 =>
 pA Tryd.prog (oNil x28) fun x29 =>
 pA Tryd.prog (oFld 67 x29 11) fun x30 =>
 pL Tryd.prog (oLoad 63 x30) w11 fun x31 =>
 pA Tryd.prog (oFld 34 x5 2) fun x32 =>
 pL Tryd.prog (oLoad 3 x32) w11 fun x33 =>
 pA Tryd.prog (oBin .sub 3 (.tmp 33) (.const (.int .i64 2)) x33 (.int .i64 2)) fun x34 =>
 pA Tryd.prog (oBi .min #[3, 3] 3 [false, true] [x34, (.int .i64 3)]) fun x35 =>
 pA Tryd.prog (oBin .mul 3 (.const (.int .i64 64)) (.tmp 35) (.int .i64 64) x35) fun x36 =>
 pN Tryd.prog (oFn (.method "pith/lzenc.tree") [x1] []) w11 fun x38 w12 =>
 ((Sem.run Tryd.prog (oLoad 3 x32) w12 = .ok (.value x33) w12) ∧ (Sem.run Tryd.prog (oLoad 63 x30) w12 = .ok (.value x31) w12) ∧ (Sem.run Tryd.prog (oLoad 49 x27) w12 = .ok (.value x28) w12) ∧ True) ∧ (pA Tryd.prog (oNil x38) fun _ =>
 pN Tryd.prog (oInv x1 "pith/lzenc.tree" [x31, x36, (.int .i64 6), x16]) w12 fun _ w13 =>
 (True) ∧ (pN Tryd.prog (oFld 34 x5 3) w13 fun x42 w14 =>
 pN Tryd.prog (oLoad 3 x42) w14 fun x43 w15 =>
 pN Tryd.prog (oBin .sub 3 (.tmp 43) (.tmp 44) x43 x21) w15 fun x45 w16 =>
 pN Tryd.prog (oBin .eql 3 (.tmp 67) (.const (.int .i64 0)) x22 (.int .i64 0)) w16 fun x68 w17 =>
 pIf x68
 (Q (.tuple #[]) w17)
 (pN Tryd.prog (oCall 54 [x16]) w17 fun x71 w18 =>
 pN Tryd.prog (oUn .not x71) w18 fun x72 w19 =>
 pIf x72
 (pDr w19 fun w20 =>
 pA Tryd.prog (oNil x0) fun x75 =>
 pA Tryd.prog (oFld 54 x75 0) fun x76 =>
 pL Tryd.prog (oLoad 49 x76) w20 fun x77 =>
 pA Tryd.prog (oNil x77) fun x78 =>
 pA Tryd.prog (oFld 67 x78 12) fun x79 =>
 pL Tryd.prog (oLoad 63 x79) w20 fun x80 =>
 (pN Tryd.prog (oCall 55 [x16]) w20 fun x82 w21 =>
 ((Sem.run Tryd.prog (oLoad 63 x79) w21 = .ok (.value x80) w21) ∧ (Sem.run Tryd.prog (oLoad 49 x76) w21 = .ok (.value x77) w21) ∧ True) ∧ (pN Tryd.prog (oFn (.method "pith/lzenc.back") [x1] []) w21 fun x85 w22 =>
 ((Sem.run Tryd.prog (oLoad 63 x79) w22 = .ok (.value x80) w22) ∧ (Sem.run Tryd.prog (oLoad 49 x76) w22 = .ok (.value x77) w22) ∧ True) ∧ (pA Tryd.prog (oNil x85) fun _ =>
 pN Tryd.prog (oInv x1 "pith/lzenc.back" [x80, x82, x22, x45]) w22 fun _ w23 =>
 (True) ∧ (Q (.tuple #[]) w23)))) ∧ (pN Tryd.prog (oFn (.method "pith/lzenc.back") [x1] []) w20 fun x85 w24 =>
 ((Sem.run Tryd.prog (oLoad 63 x79) w24 = .ok (.value x80) w24) ∧ (Sem.run Tryd.prog (oLoad 49 x76) w24 = .ok (.value x77) w24) ∧ True) ∧ (pA Tryd.prog (oNil x85) fun _ =>
 pN Tryd.prog (oCall 55 [x16]) w24 fun x82 w25 =>
 ((Sem.run Tryd.prog (oLoad 63 x79) w25 = .ok (.value x80) w25) ∧ (Sem.run Tryd.prog (oLoad 49 x76) w25 = .ok (.value x77) w25) ∧ True) ∧ (pN Tryd.prog (oInv x1 "pith/lzenc.back" [x80, x82, x22, x45]) w25 fun _ w26 =>
 (True) ∧ (Q (.tuple #[]) w26)))))
 (pN Tryd.prog (oBin .shr 3 (.tmp 47) (.const (.int .u64 4)) x45 (.int .u64 4)) w19 fun x48 w27 =>
 pN Tryd.prog (oBin .sub 3 (.tmp 49) (.const (.int .i64 4)) x22 (.int .i64 4)) w27 fun x50 w28 =>
 pN Tryd.prog (oInv x1 "pith/lzenc.direct" [x48, x50]) w28 fun _ w29 =>
 pDr w29 fun w30 =>
 pA Tryd.prog (oNil x0) fun x54 =>
 pA Tryd.prog (oFld 54 x54 0) fun x55 =>
 pL Tryd.prog (oLoad 49 x55) w30 fun x56 =>
 pA Tryd.prog (oNil x56) fun x57 =>
 pA Tryd.prog (oFld 67 x57 13) fun x58 =>
 pL Tryd.prog (oLoad 63 x58) w30 fun x59 =>
 pA Tryd.prog (oBin .and 3 (.tmp 60) (.const (.int .i64 15)) x45 (.int .i64 15)) fun x61 =>
 pN Tryd.prog (oFn (.method "pith/lzenc.back") [x1] []) w30 fun x62 w31 =>
 ((Sem.run Tryd.prog (oLoad 63 x58) w31 = .ok (.value x59) w31) ∧ (Sem.run Tryd.prog (oLoad 49 x55) w31 = .ok (.value x56) w31) ∧ True) ∧ (pA Tryd.prog (oNil x62) fun _ =>
 pN Tryd.prog (oInv x1 "pith/lzenc.back" [x59, (.int .i64 0), (.int .i64 4), x61]) w31 fun _ w32 =>
 (True) ∧ (Q (.tuple #[]) w32))))))
noncomputable def lzenc_Encoder_distance.c : Code := match Tryd.f37.body with | some c => c | none => .skip
theorem lzenc_Encoder_distance.eq [Pan] (x0 : Value) (x1 : Value) (x2 : Value) (w : World) (Q : Value → World → Prop) : cw Tryd.prog lzenc_Encoder_distance.H lzenc_Encoder_distance.c (endQ Tryd.prog Tryd.f37.results.toList Q) (argsE [x0, x1, x2]) w = lzenc_Encoder_distance.F x0 x1 x2 w Q := by kernel_rfl
theorem lzenc_Encoder_distance.calls [Pan] {x0 : Value} {x1 : Value} {x2 : Value} {w : World} {Q : Value → World → Prop} (h : lzenc_Encoder_distance.F x0 x1 x2 w Q) : Calls Tryd.prog 37 #[x0, x1, x2] w (retP Q) :=
  calls_of_cw (H := lzenc_Encoder_distance.H) (c := lzenc_Encoder_distance.c) (args := [x0, x1, x2]) mixed Tryd.func37 (by kernel_rfl) (by kernel_rfl) (Nat.le_of_ble_eq_true (by kernel_rfl)) ((lzenc_Encoder_distance.eq x0 x1 x2 w Q).mpr h)

/-! lzenc_coding_back: (pith/lzenc.coding).back; temporaries: 0:c 1:s 2:at 3:n 4:v 5:c 6:s 7:at 8:n 9:v -/
def lzenc_coding_back.H : Hints := { cut := fun  | _ => none, loop := fun  | _ => ([], 0), order := fun  | _ => [] }
def lzenc_coding_back.F [Pan] (x0 : Value) (x1 : Value) (x2 : Value) (x3 : Value) (x4 : Value) (w : World) (Q : Value → World → Prop) : Prop :=
 pN Tryd.prog (oBox 57 x0) w fun x5 w1 =>
 pN Tryd.prog (oFld 57 x5 0) w1 fun x10 w2 =>
 pN Tryd.prog (oLoad 51 x10) w2 fun x11 w3 =>
 pN Tryd.prog (oCall 79 [x11, x1, x2, x3, x4]) w3 fun _ w4 =>
 Q (.tuple #[]) w4
noncomputable def lzenc_coding_back.c : Code := match Tryd.f75.body with | some c => c | none => .skip
theorem lzenc_coding_back.eq [Pan] (x0 : Value) (x1 : Value) (x2 : Value) (x3 : Value) (x4 : Value) (w : World) (Q : Value → World → Prop) : cw Tryd.prog lzenc_coding_back.H lzenc_coding_back.c (endQ Tryd.prog Tryd.f75.results.toList Q) (argsE [x0, x1, x2, x3, x4]) w = lzenc_coding_back.F x0 x1 x2 x3 x4 w Q := by kernel_rfl
theorem lzenc_coding_back.calls [Pan] {x0 : Value} {x1 : Value} {x2 : Value} {x3 : Value} {x4 : Value} {w : World} {Q : Value → World → Prop} (h : lzenc_coding_back.F x0 x1 x2 x3 x4 w Q) : Calls Tryd.prog 75 #[x0, x1, x2, x3, x4] w (retP Q) :=
  calls_of_cw (H := lzenc_coding_back.H) (c := lzenc_coding_back.c) (args := [x0, x1, x2, x3, x4]) mixed Tryd.func75 (by kernel_rfl) (by kernel_rfl) (Nat.le_of_ble_eq_true (by kernel_rfl)) ((lzenc_coding_back.eq x0 x1 x2 x3 x4 w Q).mpr h)

/-! lzenc_coding_bit: (pith/lzenc.coding).bit; temporaries: 0:c 1:s 2:i 3:bit 4:c 5:s 6:i 7:bit -/
def lzenc_coding_bit.H : Hints := { cut := fun  | _ => none, loop := fun  | _ => ([], 0), order := fun  | _ => [] }
def lzenc_coding_bit.F [Pan] (x0 : Value) (x1 : Value) (x2 : Value) (x3 : Value) (w : World) (Q : Value → World → Prop) : Prop :=
 pN Tryd.prog (oBox 57 x0) w fun x4 w1 =>
 pN Tryd.prog (oFld 57 x4 0) w1 fun x8 w2 =>
 pN Tryd.prog (oLoad 51 x8) w2 fun x9 w3 =>
 pN Tryd.prog (oCall 80 [x9, x1, x2, x3]) w3 fun _ w4 =>
 Q (.tuple #[]) w4
noncomputable def lzenc_coding_bit.c : Code := match Tryd.f76.body with | some c => c | none => .skip
theorem lzenc_coding_bit.eq [Pan] (x0 : Value) (x1 : Value) (x2 : Value) (x3 : Value) (w : World) (Q : Value → World → Prop) : cw Tryd.prog lzenc_coding_bit.H lzenc_coding_bit.c (endQ Tryd.prog Tryd.f76.results.toList Q) (argsE [x0, x1, x2, x3]) w = lzenc_coding_bit.F x0 x1 x2 x3 w Q := by kernel_rfl
theorem lzenc_coding_bit.calls [Pan] {x0 : Value} {x1 : Value} {x2 : Value} {x3 : Value} {w : World} {Q : Value → World → Prop} (h : lzenc_coding_bit.F x0 x1 x2 x3 w Q) : Calls Tryd.prog 76 #[x0, x1, x2, x3] w (retP Q) :=
  calls_of_cw (H := lzenc_coding_bit.H) (c := lzenc_coding_bit.c) (args := [x0, x1, x2, x3]) mixed Tryd.func76 (by kernel_rfl) (by kernel_rfl) (Nat.le_of_ble_eq_true (by kernel_rfl)) ((lzenc_coding_bit.eq x0 x1 x2 x3 w Q).mpr h)

/-! lzenc_coding_direct: (pith/lzenc.coding).direct; temporaries: 0:c 1:v 2:n 3:c 4:v 5:n -/
def lzenc_coding_direct.H : Hints := { cut := fun  | _ => none, loop := fun  | _ => ([], 0), order := fun  | _ => [] }
def lzenc_coding_direct.F [Pan] (x0 : Value) (x1 : Value) (x2 : Value) (w : World) (Q : Value → World → Prop) : Prop :=
 pN Tryd.prog (oBox 57 x0) w fun x3 w1 =>
 pN Tryd.prog (oFld 57 x3 0) w1 fun x6 w2 =>
 pN Tryd.prog (oLoad 51 x6) w2 fun x7 w3 =>
 pN Tryd.prog (oConv 3 78 x1) w3 fun x9 w4 =>
 pN Tryd.prog (oCall 81 [x7, x9, x2]) w4 fun _ w5 =>
 Q (.tuple #[]) w5
noncomputable def lzenc_coding_direct.c : Code := match Tryd.f77.body with | some c => c | none => .skip
theorem lzenc_coding_direct.eq [Pan] (x0 : Value) (x1 : Value) (x2 : Value) (w : World) (Q : Value → World → Prop) : cw Tryd.prog lzenc_coding_direct.H lzenc_coding_direct.c (endQ Tryd.prog Tryd.f77.results.toList Q) (argsE [x0, x1, x2]) w = lzenc_coding_direct.F x0 x1 x2 w Q := by kernel_rfl
theorem lzenc_coding_direct.calls [Pan] {x0 : Value} {x1 : Value} {x2 : Value} {w : World} {Q : Value → World → Prop} (h : lzenc_coding_direct.F x0 x1 x2 w Q) : Calls Tryd.prog 77 #[x0, x1, x2] w (retP Q) :=
  calls_of_cw (H := lzenc_coding_direct.H) (c := lzenc_coding_direct.c) (args := [x0, x1, x2]) mixed Tryd.func77 (by kernel_rfl) (by kernel_rfl) (Nat.le_of_ble_eq_true (by kernel_rfl)) ((lzenc_coding_direct.eq x0 x1 x2 w Q).mpr h)

/-! lzenc_coding_tree: (pith/lzenc.coding).tree; temporaries: 0:c 1:s 2:at 3:n 4:v 5:c 6:s 7:at 8:n 9:v -/
def lzenc_coding_tree.H : Hints := { cut := fun  | _ => none, loop := fun  | _ => ([], 0), order := fun  | _ => [] }
def lzenc_coding_tree.F [Pan] (x0 : Value) (x1 : Value) (x2 : Value) (x3 : Value) (x4 : Value) (w : World) (Q : Value → World → Prop) : Prop :=
 pN Tryd.prog (oBox 57 x0) w fun x5 w1 =>
 pN Tryd.prog (oFld 57 x5 0) w1 fun x10 w2 =>
 pN Tryd.prog (oLoad 51 x10) w2 fun x11 w3 =>
 pN Tryd.prog (oCall 82 [x11, x1, x2, x3, x4]) w3 fun _ w4 =>
 Q (.tuple #[]) w4
noncomputable def lzenc_coding_tree.c : Code := match Tryd.f78.body with | some c => c | none => .skip
theorem lzenc_coding_tree.eq [Pan] (x0 : Value) (x1 : Value) (x2 : Value) (x3 : Value) (x4 : Value) (w : World) (Q : Value → World → Prop) : cw Tryd.prog lzenc_coding_tree.H lzenc_coding_tree.c (endQ Tryd.prog Tryd.f78.results.toList Q) (argsE [x0, x1, x2, x3, x4]) w = lzenc_coding_tree.F x0 x1 x2 x3 x4 w Q := by kernel_rfl
theorem lzenc_coding_tree.calls [Pan] {x0 : Value} {x1 : Value} {x2 : Value} {x3 : Value} {x4 : Value} {w : World} {Q : Value → World → Prop} (h : lzenc_coding_tree.F x0 x1 x2 x3 x4 w Q) : Calls Tryd.prog 78 #[x0, x1, x2, x3, x4] w (retP Q) :=
  calls_of_cw (H := lzenc_coding_tree.H) (c := lzenc_coding_tree.c) (args := [x0, x1, x2, x3, x4]) mixed Tryd.func78 (by kernel_rfl) (by kernel_rfl) (Nat.le_of_ble_eq_true (by kernel_rfl)) ((lzenc_coding_tree.eq x0 x1 x2 x3 x4 w Q).mpr h)

/-! lzenc_costing_back: (*pith/lzenc.costing).back; temporaries: 0:c 1:s 2:at 3:n 4:v 5:c 6:s 7:at 8:n 9:v 10:x 11:_ -/
def lzenc_costing_back.H : Hints := { cut := fun  | _ => none, loop := fun  | _ => ([], 0), order := fun  | _ => [] }
def lzenc_costing_back.F [Pan] (x0 : Value) (x1 : Value) (x2 : Value) (x3 : Value) (x4 : Value) (w : World) (Q : Value → World → Prop) : Prop :=
 pN Tryd.prog (oCall 101 [x1, x2, x3, x4]) w fun x17 w1 =>
 pN Tryd.prog (oExt x17 0) w1 fun x18 w2 =>
 pN Tryd.prog (oExt x17 1) w2 fun _ w3 =>
 pN Tryd.prog (oNil x0) w3 fun x21 w4 =>
 pN Tryd.prog (oFld 71 x21 0) w4 fun x22 w5 =>
 pN Tryd.prog (oLoad 3 x22) w5 fun x23 w6 =>
 pN Tryd.prog (oBin .add 3 (.tmp 23) (.tmp 24) x23 x18) w6 fun x25 w7 =>
 pN Tryd.prog (oNil x0) w7 fun x26 w8 =>
 pN Tryd.prog (oFld 71 x26 0) w8 fun x27 w9 =>
 pN Tryd.prog (oStore 3 x27 x25) w9 fun _ w10 =>
 Q (.tuple #[]) w10
noncomputable def lzenc_costing_back.c : Code := match Tryd.f97.body with | some c => c | none => .skip
theorem lzenc_costing_back.eq [Pan] (x0 : Value) (x1 : Value) (x2 : Value) (x3 : Value) (x4 : Value) (w : World) (Q : Value → World → Prop) : cw Tryd.prog lzenc_costing_back.H lzenc_costing_back.c (endQ Tryd.prog Tryd.f97.results.toList Q) (argsE [x0, x1, x2, x3, x4]) w = lzenc_costing_back.F x0 x1 x2 x3 x4 w Q := by kernel_rfl
theorem lzenc_costing_back.calls [Pan] {x0 : Value} {x1 : Value} {x2 : Value} {x3 : Value} {x4 : Value} {w : World} {Q : Value → World → Prop} (h : lzenc_costing_back.F x0 x1 x2 x3 x4 w Q) : Calls Tryd.prog 97 #[x0, x1, x2, x3, x4] w (retP Q) :=
  calls_of_cw (H := lzenc_costing_back.H) (c := lzenc_costing_back.c) (args := [x0, x1, x2, x3, x4]) mixed Tryd.func97 (by kernel_rfl) (by kernel_rfl) (Nat.le_of_ble_eq_true (by kernel_rfl)) ((lzenc_costing_back.eq x0 x1 x2 x3 x4 w Q).mpr h)

/-! lzenc_costing_bit: (*pith/lzenc.costing).bit; temporaries: 0:c 1:s 2:i 3:bit 4:c 5:s 6:i 7:bit 8:p 9:_ -/
def lzenc_costing_bit.H : Hints := { cut := fun  | _ => none, loop := fun  | _ => ([], 0), order := fun | 1 => [(0, 0), (1, 1), (2, 3), (3, 7), (4, 15), (5, 31), (6, 63), (7, 127), (8, 255), (9, 511), (10, 1023)] | _ => [] }
def lzenc_costing_bit.F [Pan] (x0 : Value) (x1 : Value) (x2 : Value) (x3 : Value) (w : World) (Q : Value → World → Prop) : Prop :=
 pN Tryd.prog (oCall 84 [x1, x2]) w fun x13 w1 =>
 pN Tryd.prog (oExt x13 0) w1 fun x14 w2 =>
 pN Tryd.prog (oExt x13 1) w2 fun _ w3 =>
 pDr w3 fun w4 =>
 pA Tryd.prog (oNil x0) fun x17 =>
 pA Tryd.prog (oFld 71 x17 0) fun x18 =>
 pL Tryd.prog (oLoad 3 x18) w4 fun x19 =>
 pN Tryd.prog (oCall 102 [x14, x3]) w4 fun x22 w5 =>
 ((Sem.run Tryd.prog (oLoad 3 x18) w5 = .ok (.value x19) w5) ∧ True) ∧ (pA Tryd.prog (oBin .add 3 (.tmp 19) (.tmp 22) x19 x22) fun x23 =>
 pA Tryd.prog (oNil x0) fun x24 =>
 pA Tryd.prog (oFld 71 x24 0) fun x25 =>
 pN Tryd.prog (oStore 3 x25 x23) w5 fun _ w6 =>
 (True) ∧ (Q (.tuple #[]) w6))
noncomputable def lzenc_costing_bit.c : Code := match Tryd.f98.body with | some c => c | none => .skip
theorem lzenc_costing_bit.eq [Pan] (x0 : Value) (x1 : Value) (x2 : Value) (x3 : Value) (w : World) (Q : Value → World → Prop) : cw Tryd.prog lzenc_costing_bit.H lzenc_costing_bit.c (endQ Tryd.prog Tryd.f98.results.toList Q) (argsE [x0, x1, x2, x3]) w = lzenc_costing_bit.F x0 x1 x2 x3 w Q := by kernel_rfl
theorem lzenc_costing_bit.calls [Pan] {x0 : Value} {x1 : Value} {x2 : Value} {x3 : Value} {w : World} {Q : Value → World → Prop} (h : lzenc_costing_bit.F x0 x1 x2 x3 w Q) : Calls Tryd.prog 98 #[x0, x1, x2, x3] w (retP Q) :=
  calls_of_cw (H := lzenc_costing_bit.H) (c := lzenc_costing_bit.c) (args := [x0, x1, x2, x3]) mixed Tryd.func98 (by kernel_rfl) (by kernel_rfl) (Nat.le_of_ble_eq_true (by kernel_rfl)) ((lzenc_costing_bit.eq x0 x1 x2 x3 w Q).mpr h)

/-! lzenc_costing_direct: (*pith/lzenc.costing).direct; temporaries: 0:c 1:_ 2:n 3:c 4:_ 5:n -/
def lzenc_costing_direct.H : Hints := { cut := fun  | _ => none, loop := fun  | _ => ([], 0), order := fun  | _ => [] }
def lzenc_costing_direct.F [Pan] (x0 : Value) (x1 : Value) (x2 : Value) (w : World) (Q : Value → World → Prop) : Prop :=
 pN Tryd.prog (oNil x0) w fun x7 w1 =>
 pN Tryd.prog (oFld 71 x7 0) w1 fun x8 w2 =>
 pN Tryd.prog (oLoad 3 x8) w2 fun x9 w3 =>
 pN Tryd.prog (oBin .mul 3 (.const (.int .i64 16)) (.tmp 10) (.int .i64 16) x2) w3 fun x11 w4 =>
 pN Tryd.prog (oBin .add 3 (.tmp 9) (.tmp 11) x9 x11) w4 fun x12 w5 =>
 pN Tryd.prog (oNil x0) w5 fun x13 w6 =>
 pN Tryd.prog (oFld 71 x13 0) w6 fun x14 w7 =>
 pN Tryd.prog (oStore 3 x14 x12) w7 fun _ w8 =>
 Q (.tuple #[]) w8
noncomputable def lzenc_costing_direct.c : Code := match Tryd.f99.body with | some c => c | none => .skip
theorem lzenc_costing_direct.eq [Pan] (x0 : Value) (x1 : Value) (x2 : Value) (w : World) (Q : Value → World → Prop) : cw Tryd.prog lzenc_costing_direct.H lzenc_costing_direct.c (endQ Tryd.prog Tryd.f99.results.toList Q) (argsE [x0, x1, x2]) w = lzenc_costing_direct.F x0 x1 x2 w Q := by kernel_rfl
theorem lzenc_costing_direct.calls [Pan] {x0 : Value} {x1 : Value} {x2 : Value} {w : World} {Q : Value → World → Prop} (h : lzenc_costing_direct.F x0 x1 x2 w Q) : Calls Tryd.prog 99 #[x0, x1, x2] w (retP Q) :=
  calls_of_cw (H := lzenc_costing_direct.H) (c := lzenc_costing_direct.c) (args := [x0, x1, x2]) mixed Tryd.func99 (by kernel_rfl) (by kernel_rfl) (Nat.le_of_ble_eq_true (by kernel_rfl)) ((lzenc_costing_direct.eq x0 x1 x2 w Q).mpr h)

/-! lzenc_costing_tree: (*pith/lzenc.costing).tree; temporaries: 0:c 1:s 2:at 3:n 4:v 5:c 6:s 7:at 8:n 9:v 10:x 11:_ -/
def lzenc_costing_tree.H : Hints := { cut := fun  | _ => none, loop := fun  | _ => ([], 0), order := fun  | _ => [] }
def lzenc_costing_tree.F [Pan] (x0 : Value) (x1 : Value) (x2 : Value) (x3 : Value) (x4 : Value) (w : World) (Q : Value → World → Prop) : Prop :=
 pN Tryd.prog (oCall 103 [x1, x2, x3, x4]) w fun x17 w1 =>
 pN Tryd.prog (oExt x17 0) w1 fun x18 w2 =>
 pN Tryd.prog (oExt x17 1) w2 fun _ w3 =>
 pN Tryd.prog (oNil x0) w3 fun x21 w4 =>
 pN Tryd.prog (oFld 71 x21 0) w4 fun x22 w5 =>
 pN Tryd.prog (oLoad 3 x22) w5 fun x23 w6 =>
 pN Tryd.prog (oBin .add 3 (.tmp 23) (.tmp 24) x23 x18) w6 fun x25 w7 =>
 pN Tryd.prog (oNil x0) w7 fun x26 w8 =>
 pN Tryd.prog (oFld 71 x26 0) w8 fun x27 w9 =>
 pN Tryd.prog (oStore 3 x27 x25) w9 fun _ w10 =>
 Q (.tuple #[]) w10
noncomputable def lzenc_costing_tree.c : Code := match Tryd.f100.body with | some c => c | none => .skip
theorem lzenc_costing_tree.eq [Pan] (x0 : Value) (x1 : Value) (x2 : Value) (x3 : Value) (x4 : Value) (w : World) (Q : Value → World → Prop) : cw Tryd.prog lzenc_costing_tree.H lzenc_costing_tree.c (endQ Tryd.prog Tryd.f100.results.toList Q) (argsE [x0, x1, x2, x3, x4]) w = lzenc_costing_tree.F x0 x1 x2 x3 x4 w Q := by kernel_rfl
theorem lzenc_costing_tree.calls [Pan] {x0 : Value} {x1 : Value} {x2 : Value} {x3 : Value} {x4 : Value} {w : World} {Q : Value → World → Prop} (h : lzenc_costing_tree.F x0 x1 x2 x3 x4 w Q) : Calls Tryd.prog 100 #[x0, x1, x2, x3, x4] w (retP Q) :=
  calls_of_cw (H := lzenc_costing_tree.H) (c := lzenc_costing_tree.c) (args := [x0, x1, x2, x3, x4]) mixed Tryd.func100 (by kernel_rfl) (by kernel_rfl) (Nat.le_of_ble_eq_true (by kernel_rfl)) ((lzenc_costing_tree.eq x0 x1 x2 x3 x4 w Q).mpr h)

end Go.Proofs.YtbgnnjfpiblkmaaDoor
