/-
  Printed by a program of mine (lift.py): each function of the seat as a plain proposition over values and worlds; that the program meets it.
-/
import Derived.Test.YtbgnnjfpiblkmaaDoorRows
import Derived.Test.YtbgnnjfpiblkmaaDoorFacts
namespace Go.Proofs.YtbgnnjfpiblkmaaDoor
open Go
set_option linter.unusedSimpArgs false
set_option linter.unnecessarySimpa false
set_option linter.unusedSectionVars false
set_option linter.unusedVariables false
set_option maxRecDepth 100000

/-! model_New: pith/model.New; temporaries: 0:p 1:p -/
def model_New.H : Hints := { cut := fun  | _ => none, loop := fun  | _ => ([], 0), order := fun | 1 => [(0, 0), (8, 1), (9, 257), (10, 769), (11, 1793), (12, 3841), (13, 7937), (1, 16129), (2, 16131), (3, 16135), (4, 16143), (5, 16159), (6, 16191), (7, 16255), (14, 16383), (15, 32767), (16, 65535), (17, 131071), (18, 262143), (19, 524287), (20, 1048575), (21, 2097151), (22, 4194303)] | _ => [] }
def model_New.F [Pan] (x0 : Value) (w : World) (Q : Value → World → Prop) : Prop :=
 pN Tryd.prog (oBox 23 x0) w fun x1 w1 =>
 pDr w1 fun w2 =>
 pL Tryd.prog (oLoad 23 x1) w2 fun x3 =>
 pA Tryd.prog (oFld 23 x1 0) fun x11 =>
 pL Tryd.prog (oLoad 3 x11) w2 fun x12 =>
 pA Tryd.prog (oFld 23 x1 1) fun x13 =>
 pL Tryd.prog (oLoad 3 x13) w2 fun x14 =>
 pA Tryd.prog (oBin .add 3 (.tmp 12) (.tmp 14) x12 x14) fun x15 =>
 pA Tryd.prog (oBin .shl 3 (.const (.int .i64 768)) (.tmp 15) (.int .i64 768) x15) fun x16 =>
 pN Tryd.prog (oCall 28 []) w2 fun x4 w3 =>
 ((Sem.run Tryd.prog (oLoad 3 x13) w3 = .ok (.value x14) w3) ∧ (Sem.run Tryd.prog (oLoad 3 x11) w3 = .ok (.value x12) w3) ∧ (Sem.run Tryd.prog (oLoad 23 x1) w3 = .ok (.value x3) w3) ∧ True) ∧ (pN Tryd.prog (oCall 29 [(.int .i64 192)]) w3 fun x5 w4 =>
 ((Sem.run Tryd.prog (oLoad 3 x13) w4 = .ok (.value x14) w4) ∧ (Sem.run Tryd.prog (oLoad 3 x11) w4 = .ok (.value x12) w4) ∧ (Sem.run Tryd.prog (oLoad 23 x1) w4 = .ok (.value x3) w4) ∧ True) ∧ (pN Tryd.prog (oCall 29 [(.int .i64 192)]) w4 fun x6 w5 =>
 ((Sem.run Tryd.prog (oLoad 3 x13) w5 = .ok (.value x14) w5) ∧ (Sem.run Tryd.prog (oLoad 3 x11) w5 = .ok (.value x12) w5) ∧ (Sem.run Tryd.prog (oLoad 23 x1) w5 = .ok (.value x3) w5) ∧ True) ∧ (pN Tryd.prog (oCall 29 [(.int .i64 12)]) w5 fun x7 w6 =>
 ((Sem.run Tryd.prog (oLoad 3 x13) w6 = .ok (.value x14) w6) ∧ (Sem.run Tryd.prog (oLoad 3 x11) w6 = .ok (.value x12) w6) ∧ (Sem.run Tryd.prog (oLoad 23 x1) w6 = .ok (.value x3) w6) ∧ True) ∧ (pN Tryd.prog (oCall 29 [(.int .i64 12)]) w6 fun x8 w7 =>
 ((Sem.run Tryd.prog (oLoad 3 x13) w7 = .ok (.value x14) w7) ∧ (Sem.run Tryd.prog (oLoad 3 x11) w7 = .ok (.value x12) w7) ∧ (Sem.run Tryd.prog (oLoad 23 x1) w7 = .ok (.value x3) w7) ∧ True) ∧ (pN Tryd.prog (oCall 29 [(.int .i64 12)]) w7 fun x9 w8 =>
 ((Sem.run Tryd.prog (oLoad 3 x13) w8 = .ok (.value x14) w8) ∧ (Sem.run Tryd.prog (oLoad 3 x11) w8 = .ok (.value x12) w8) ∧ (Sem.run Tryd.prog (oLoad 23 x1) w8 = .ok (.value x3) w8) ∧ True) ∧ (pN Tryd.prog (oCall 29 [(.int .i64 12)]) w8 fun x10 w9 =>
 ((Sem.run Tryd.prog (oLoad 3 x13) w9 = .ok (.value x14) w9) ∧ (Sem.run Tryd.prog (oLoad 3 x11) w9 = .ok (.value x12) w9) ∧ (Sem.run Tryd.prog (oLoad 23 x1) w9 = .ok (.value x3) w9) ∧ True) ∧ (pN Tryd.prog (oCall 29 [x16]) w9 fun x17 w10 =>
 ((Sem.run Tryd.prog (oLoad 23 x1) w10 = .ok (.value x3) w10) ∧ True) ∧ (pN Tryd.prog (oCall 30 []) w10 fun x18 w11 =>
 ((Sem.run Tryd.prog (oLoad 23 x1) w11 = .ok (.value x3) w11) ∧ True) ∧ (pN Tryd.prog (oCall 30 []) w11 fun x19 w12 =>
 ((Sem.run Tryd.prog (oLoad 23 x1) w12 = .ok (.value x3) w12) ∧ True) ∧ (pN Tryd.prog (oCall 29 [(.int .i64 256)]) w12 fun x20 w13 =>
 ((Sem.run Tryd.prog (oLoad 23 x1) w13 = .ok (.value x3) w13) ∧ True) ∧ (pN Tryd.prog (oCall 29 [(.int .i64 128)]) w13 fun x21 w14 =>
 ((Sem.run Tryd.prog (oLoad 23 x1) w14 = .ok (.value x3) w14) ∧ True) ∧ (pN Tryd.prog (oCall 29 [(.int .i64 16)]) w14 fun x22 w15 =>
 ((Sem.run Tryd.prog (oLoad 23 x1) w15 = .ok (.value x3) w15) ∧ True) ∧ (pN Tryd.prog (oBuild 67 [(0, x3), (1, x4), (2, x5), (3, x6), (4, x7), (5, x8), (6, x9), (7, x10), (8, x17), (9, x18), (10, x19), (11, x20), (12, x21), (13, x22)]) w15 fun x23 w16 =>
 (True) ∧ (pN Tryd.prog (oBox 67 x23) w16 fun x24 w17 =>
 (True) ∧ (Q x24 w17)))))))))))))))
noncomputable def model_New.c : Code := match Tryd.f17.body with | some c => c | none => .skip
theorem model_New.eq [Pan] (x0 : Value) (w : World) (Q : Value → World → Prop) : cw Tryd.prog model_New.H model_New.c (endQ Tryd.prog Tryd.f17.results.toList Q) (argsE [x0]) w = model_New.F x0 w Q := by kernel_rfl
theorem model_New.calls [Pan] {x0 : Value} {w : World} {Q : Value → World → Prop} (h : model_New.F x0 w Q) : Calls Tryd.prog 17 #[x0] w (retP Q) :=
  calls_of_cw (H := model_New.H) (c := model_New.c) (args := [x0]) mixed Tryd.func17 (by kernel_rfl) (by kernel_rfl) (Nat.le_of_ble_eq_true (by kernel_rfl)) ((model_New.eq x0 w Q).mpr h)

/-! model_Tables_Fork: (*pith/model.Tables).Fork; temporaries: 0:t 1:t 3:f 4:_ 5:s -/
def model_Tables_Fork.H : Hints := { cut := fun  | _ => none, loop := fun | 3 => ([21], 4292870176) | _ => ([], 0), order := fun | 7 => [(0, 0), (1, 1), (2, 3), (3, 7), (5, 15), (6, 47), (7, 111), (8, 239), (4, 495), (9, 511), (10, 1023), (11, 2047), (12, 4095), (13, 8191)] | _ => [] }
def model_Tables_Fork.F [Pan] (x0 : Value) (w : World) (Q : Value → World → Prop) : Prop :=
 pN Tryd.prog (oNil x0) w fun x7 w1 =>
 pN Tryd.prog (oLoad 67 x7) w1 fun x8 w2 =>
 pN Tryd.prog (oAlloc 67) w2 fun x3 w3 =>
 pN Tryd.prog (oStore 67 x3 x8) w3 fun _ w4 =>
 pN Tryd.prog (oFld 67 x3 2) w4 fun x9 w5 =>
 pN Tryd.prog (oFld 67 x3 3) w5 fun x10 w6 =>
 pN Tryd.prog (oFld 67 x3 4) w6 fun x11 w7 =>
 pN Tryd.prog (oFld 67 x3 5) w7 fun x12 w8 =>
 pN Tryd.prog (oFld 67 x3 6) w8 fun x13 w9 =>
 pN Tryd.prog (oFld 67 x3 7) w9 fun x14 w10 =>
 pN Tryd.prog (oFld 67 x3 8) w10 fun x15 w11 =>
 pN Tryd.prog (oFld 67 x3 11) w11 fun x16 w12 =>
 pN Tryd.prog (oFld 67 x3 12) w12 fun x17 w13 =>
 pN Tryd.prog (oFld 67 x3 13) w13 fun x18 w14 =>
 pN Tryd.prog (oBs 96 10 [(0, x9), (1, x10), (2, x11), (3, x12), (4, x13), (5, x14), (6, x15), (7, x16), (8, x17), (9, x18)]) w14 fun x19 w15 =>
 pN Tryd.prog (oBi .len #[96] 3 [false] [x19]) w15 fun x20 w16 =>
 ∃ (L3 : Value → World → Prop) (m3 : Value → World → Nat),
 L3 (.int .i64 0) w16 ∧
 ∀ (_k3 : Env) (v21l3 : Value) (w17 : World), L3 v21l3 w17 →
 pN Tryd.prog (oBin .lss 3 (.tmp 21) (.tmp 20) v21l3 x20) w17 fun x22 w18 =>
 pIf x22
 (pN Tryd.prog (oIdx 96 x19 v21l3) w18 fun x23 w19 =>
 pN Tryd.prog (oLoad 95 x23) w19 fun x24 w20 =>
 pN Tryd.prog (oNil x24) w20 fun x27 w21 =>
 pN Tryd.prog (oLoad 63 x27) w21 fun x28 w22 =>
 pN Tryd.prog (oCall 41 [x28]) w22 fun x29 w23 =>
 pN Tryd.prog (oNil x24) w23 fun x30 w24 =>
 pN Tryd.prog (oStore 63 x30 x29) w24 fun _ w25 =>
 pN Tryd.prog (oBin .add 3 (.tmp 21) (.const (.int .i64 1)) v21l3 (.int .i64 1)) w25 fun x31 w26 =>
 (L3 x31 w26 ∧ m3 x31 w26 < m3 v21l3 w17))
 (pDr w18 fun w27 =>
 pA Tryd.prog (oNil x0) fun x33 =>
 pA Tryd.prog (oFld 67 x33 9) fun x34 =>
 pL Tryd.prog (oLoad 65 x34) w27 fun x35 =>
 pA Tryd.prog (oNil x0) fun x38 =>
 pA Tryd.prog (oFld 67 x38 10) fun x39 =>
 pL Tryd.prog (oLoad 65 x39) w27 fun x40 =>
 pN Tryd.prog (oCall 42 [x35]) w27 fun x36 w28 =>
 ((Sem.run Tryd.prog (oLoad 65 x39) w28 = .ok (.value x40) w28) ∧ True) ∧ (pN Tryd.prog (oCall 42 [x40]) w28 fun x41 w29 =>
 (True) ∧ (pA Tryd.prog (oFld 67 x3 9) fun x42 =>
 pN Tryd.prog (oStore 65 x42 x36) w29 fun _ w30 =>
 (True) ∧ (pA Tryd.prog (oFld 67 x3 10) fun x43 =>
 pN Tryd.prog (oStore 65 x43 x41) w30 fun _ w31 =>
 (True) ∧ (Q x3 w31)))))
noncomputable def model_Tables_Fork.c : Code := match Tryd.f24.body with | some c => c | none => .skip
theorem model_Tables_Fork.eq [Pan] (x0 : Value) (w : World) (Q : Value → World → Prop) : cw Tryd.prog model_Tables_Fork.H model_Tables_Fork.c (endQ Tryd.prog Tryd.f24.results.toList Q) (argsE [x0]) w = model_Tables_Fork.F x0 w Q := by kernel_rfl
theorem model_Tables_Fork.calls [Pan] {x0 : Value} {w : World} {Q : Value → World → Prop} (h : model_Tables_Fork.F x0 w Q) : Calls Tryd.prog 24 #[x0] w (retP Q) :=
  calls_of_cw (H := model_Tables_Fork.H) (c := model_Tables_Fork.c) (args := [x0]) mixed Tryd.func24 (by kernel_rfl) (by kernel_rfl) (Nat.le_of_ble_eq_true (by kernel_rfl)) ((model_Tables_Fork.eq x0 w Q).mpr h)

/-! model_row: pith/model.row; temporaries: 0:n 1:n 3:s 4:_ -/
def model_row.H : Hints := { cut := fun  | _ => none, loop := fun  | _ => ([], 0), order := fun  | _ => [] }
def model_row.F [Pan] (x0 : Value) (w : World) (Q : Value → World → Prop) : Prop :=
 pN Tryd.prog (oCall 43 [x0]) w fun x7 w1 =>
 pN Tryd.prog (oExt x7 0) w1 fun x8 w2 =>
 pN Tryd.prog (oExt x7 1) w2 fun _ w3 =>
 Q x8 w3
noncomputable def model_row.c : Code := match Tryd.f29.body with | some c => c | none => .skip
theorem model_row.eq [Pan] (x0 : Value) (w : World) (Q : Value → World → Prop) : cw Tryd.prog model_row.H model_row.c (endQ Tryd.prog Tryd.f29.results.toList Q) (argsE [x0]) w = model_row.F x0 w Q := by kernel_rfl
theorem model_row.calls [Pan] {x0 : Value} {w : World} {Q : Value → World → Prop} (h : model_row.F x0 w Q) : Calls Tryd.prog 29 #[x0] w (retP Q) :=
  calls_of_cw (H := model_row.H) (c := model_row.c) (args := [x0]) mixed Tryd.func29 (by kernel_rfl) (by kernel_rfl) (Nat.le_of_ble_eq_true (by kernel_rfl)) ((model_row.eq x0 w Q).mpr h)

/-! model_lengths: pith/model.lengths; temporaries:  -/
def model_lengths.H : Hints := { cut := fun  | _ => none, loop := fun  | _ => ([], 0), order := fun  | _ => [] }
def model_lengths.F [Pan]  (w : World) (Q : Value → World → Prop) : Prop :=
 pN Tryd.prog (oAlloc 65) w fun x0 w1 =>
 pN Tryd.prog (oCall 29 [(.int .i64 2)]) w1 fun x1 w2 =>
 pN Tryd.prog (oCall 29 [(.int .i64 128)]) w2 fun x2 w3 =>
 pN Tryd.prog (oCall 29 [(.int .i64 128)]) w3 fun x3 w4 =>
 pN Tryd.prog (oCall 29 [(.int .i64 256)]) w4 fun x4 w5 =>
 pN Tryd.prog (oBuild 65 [(0, x1), (1, x2), (2, x3), (3, x4)]) w5 fun x5 w6 =>
 pN Tryd.prog (oStore 65 x0 x5) w6 fun _ w7 =>
 pL Tryd.prog (oRes 65 x0) w7 fun r0 =>
 Q r0 w7
noncomputable def model_lengths.c : Code := match Tryd.f30.body with | some c => c | none => .skip
theorem model_lengths.eq [Pan]  (w : World) (Q : Value → World → Prop) : cw Tryd.prog model_lengths.H model_lengths.c (endQ Tryd.prog Tryd.f30.results.toList Q) (argsE []) w = model_lengths.F  w Q := by kernel_rfl
theorem model_lengths.calls [Pan]  {w : World} {Q : Value → World → Prop} (h : model_lengths.F  w Q) : Calls Tryd.prog 30 #[] w (retP Q) :=
  calls_of_cw (H := model_lengths.H) (c := model_lengths.c) (args := []) mixed Tryd.func30 (by kernel_rfl) (by kernel_rfl) (Nat.le_of_ble_eq_true (by kernel_rfl)) ((model_lengths.eq  w Q).mpr h)

/-! model_Tables_At: (*pith/model.Tables).At; temporaries: 0:t 1:place 2:t 3:place -/
def model_Tables_At.H : Hints := { cut := fun  | _ => none, loop := fun  | _ => ([], 0), order := fun | 1 => [(0, 0), (1, 1), (2, 3), (3, 7), (4, 15), (5, 31), (6, 63), (7, 127), (8, 255), (9, 511), (10, 1023)] | _ => [] }
def model_Tables_At.F [Pan] (x0 : Value) (x1 : Value) (w : World) (Q : Value → World → Prop) : Prop :=
 pDr w fun w1 =>
 pA Tryd.prog (oNil x0) fun x6 =>
 pA Tryd.prog (oFld 67 x6 1) fun x7 =>
 pA Tryd.prog (oFld 60 x7 0) fun x8 =>
 pL Tryd.prog (oLoad 3 x8) w1 fun x9 =>
 pA Tryd.prog (oBin .mul 3 (.tmp 9) (.const (.int .i64 16)) x9 (.int .i64 16)) fun x10 =>
 pN Tryd.prog (oCall 49 [x0, x1]) w1 fun x13 w2 =>
 ((Sem.run Tryd.prog (oLoad 3 x8) w2 = .ok (.value x9) w2) ∧ True) ∧ (pA Tryd.prog (oBin .add 3 (.tmp 10) (.tmp 13) x10 x13) fun x14 =>
 Q x14 w2)
noncomputable def model_Tables_At.c : Code := match Tryd.f33.body with | some c => c | none => .skip
theorem model_Tables_At.eq [Pan] (x0 : Value) (x1 : Value) (w : World) (Q : Value → World → Prop) : cw Tryd.prog model_Tables_At.H model_Tables_At.c (endQ Tryd.prog Tryd.f33.results.toList Q) (argsE [x0, x1]) w = model_Tables_At.F x0 x1 w Q := by kernel_rfl
theorem model_Tables_At.calls [Pan] {x0 : Value} {x1 : Value} {w : World} {Q : Value → World → Prop} (h : model_Tables_At.F x0 x1 w Q) : Calls Tryd.prog 33 #[x0, x1] w (retP Q) :=
  calls_of_cw (H := model_Tables_At.H) (c := model_Tables_At.c) (args := [x0, x1]) mixed Tryd.func33 (by kernel_rfl) (by kernel_rfl) (Nat.le_of_ble_eq_true (by kernel_rfl)) ((model_Tables_At.eq x0 x1 w Q).mpr h)

/-! model_Lengths_fork: (pith/model.Lengths).fork; temporaries: 0:l 1:l -/
def model_Lengths_fork.H : Hints := { cut := fun  | _ => none, loop := fun  | _ => ([], 0), order := fun | 1 => [(0, 0), (1, 1), (3, 3), (4, 11), (6, 27), (7, 91), (9, 219), (10, 731), (2, 1755), (5, 1759), (8, 1791), (11, 2047), (12, 4095), (13, 8191)] | _ => [] }
def model_Lengths_fork.F [Pan] (x0 : Value) (w : World) (Q : Value → World → Prop) : Prop :=
 pN Tryd.prog (oBox 65 x0) w fun x1 w1 =>
 pN Tryd.prog (oAlloc 65) w1 fun x2 w2 =>
 pDr w2 fun w3 =>
 pA Tryd.prog (oFld 65 x1 0) fun x3 =>
 pL Tryd.prog (oLoad 63 x3) w3 fun x4 =>
 pA Tryd.prog (oFld 65 x1 1) fun x6 =>
 pL Tryd.prog (oLoad 63 x6) w3 fun x7 =>
 pA Tryd.prog (oFld 65 x1 2) fun x9 =>
 pL Tryd.prog (oLoad 63 x9) w3 fun x10 =>
 pA Tryd.prog (oFld 65 x1 3) fun x12 =>
 pL Tryd.prog (oLoad 63 x12) w3 fun x13 =>
 pN Tryd.prog (oCall 41 [x4]) w3 fun x5 w4 =>
 ((Sem.run Tryd.prog (oLoad 63 x12) w4 = .ok (.value x13) w4) ∧ (Sem.run Tryd.prog (oLoad 63 x9) w4 = .ok (.value x10) w4) ∧ (Sem.run Tryd.prog (oLoad 63 x6) w4 = .ok (.value x7) w4) ∧ True) ∧ (pN Tryd.prog (oCall 41 [x7]) w4 fun x8 w5 =>
 ((Sem.run Tryd.prog (oLoad 63 x12) w5 = .ok (.value x13) w5) ∧ (Sem.run Tryd.prog (oLoad 63 x9) w5 = .ok (.value x10) w5) ∧ True) ∧ (pN Tryd.prog (oCall 41 [x10]) w5 fun x11 w6 =>
 ((Sem.run Tryd.prog (oLoad 63 x12) w6 = .ok (.value x13) w6) ∧ True) ∧ (pN Tryd.prog (oCall 41 [x13]) w6 fun x14 w7 =>
 (True) ∧ (pN Tryd.prog (oBuild 65 [(0, x5), (1, x8), (2, x11), (3, x14)]) w7 fun x15 w8 =>
 (True) ∧ (pN Tryd.prog (oStore 65 x2 x15) w8 fun _ w9 =>
 (True) ∧ (pL Tryd.prog (oRes 65 x2) w9 fun r2 =>
 Q r2 w9))))))
noncomputable def model_Lengths_fork.c : Code := match Tryd.f42.body with | some c => c | none => .skip
theorem model_Lengths_fork.eq [Pan] (x0 : Value) (w : World) (Q : Value → World → Prop) : cw Tryd.prog model_Lengths_fork.H model_Lengths_fork.c (endQ Tryd.prog Tryd.f42.results.toList Q) (argsE [x0]) w = model_Lengths_fork.F x0 w Q := by kernel_rfl
theorem model_Lengths_fork.calls [Pan] {x0 : Value} {w : World} {Q : Value → World → Prop} (h : model_Lengths_fork.F x0 w Q) : Calls Tryd.prog 42 #[x0] w (retP Q) :=
  calls_of_cw (H := model_Lengths_fork.H) (c := model_Lengths_fork.c) (args := [x0]) mixed Tryd.func42 (by kernel_rfl) (by kernel_rfl) (Nat.le_of_ble_eq_true (by kernel_rfl)) ((model_Lengths_fork.eq x0 w Q).mpr h)

/-! model_Tables_PlaceState: (*pith/model.Tables).PlaceState; temporaries: 0:t 1:place 2:t 3:place -/
def model_Tables_PlaceState.H : Hints := { cut := fun  | _ => none, loop := fun  | _ => ([], 0), order := fun  | _ => [] }
def model_Tables_PlaceState.F [Pan] (x0 : Value) (x1 : Value) (w : World) (Q : Value → World → Prop) : Prop :=
 pN Tryd.prog (oNil x0) w fun x7 w1 =>
 pN Tryd.prog (oFld 67 x7 0) w1 fun x8 w2 =>
 pN Tryd.prog (oFld 23 x8 2) w2 fun x9 w3 =>
 pN Tryd.prog (oLoad 3 x9) w3 fun x10 w4 =>
 pN Tryd.prog (oBin .shl 3 (.const (.int .i64 1)) (.tmp 10) (.int .i64 1) x10) w4 fun x11 w5 =>
 pN Tryd.prog (oBin .sub 3 (.tmp 11) (.const (.int .i64 1)) x11 (.int .i64 1)) w5 fun x12 w6 =>
 pN Tryd.prog (oBin .and 3 (.tmp 5) (.tmp 12) x1 x12) w6 fun x13 w7 =>
 Q x13 w7
noncomputable def model_Tables_PlaceState.c : Code := match Tryd.f49.body with | some c => c | none => .skip
theorem model_Tables_PlaceState.eq [Pan] (x0 : Value) (x1 : Value) (w : World) (Q : Value → World → Prop) : cw Tryd.prog model_Tables_PlaceState.H model_Tables_PlaceState.c (endQ Tryd.prog Tryd.f49.results.toList Q) (argsE [x0, x1]) w = model_Tables_PlaceState.F x0 x1 w Q := by kernel_rfl
theorem model_Tables_PlaceState.calls [Pan] {x0 : Value} {x1 : Value} {w : World} {Q : Value → World → Prop} (h : model_Tables_PlaceState.F x0 x1 w Q) : Calls Tryd.prog 49 #[x0, x1] w (retP Q) :=
  calls_of_cw (H := model_Tables_PlaceState.H) (c := model_Tables_PlaceState.c) (args := [x0, x1]) mixed Tryd.func49 (by kernel_rfl) (by kernel_rfl) (Nat.le_of_ble_eq_true (by kernel_rfl)) ((model_Tables_PlaceState.eq x0 x1 w Q).mpr h)

/-! model_Tables_Context: (*pith/model.Tables).Context; temporaries: 0:t 1:place 2:before 3:t 4:place 5:before 7:c -/
def model_Tables_Context.H : Hints := { cut := fun  | _ => none, loop := fun  | _ => ([], 0), order := fun | 1 => [(0, 0), (1, 1), (2, 3), (3, 7), (4, 15), (5, 31), (6, 63), (7, 127), (8, 255), (9, 511), (10, 1023), (11, 2047), (12, 4095), (13, 8191), (14, 16383), (15, 32767), (16, 65535), (17, 131071), (18, 262143), (19, 524287), (20, 1048575), (21, 2097151), (22, 4194303), (23, 8388607), (24, 16777215), (25, 33554431)] | _ => [] }
def model_Tables_Context.F [Pan] (x0 : Value) (x1 : Value) (x2 : Value) (w : World) (Q : Value → World → Prop) : Prop :=
 pDr w fun w1 =>
 pA Tryd.prog (oNil x0) fun x10 =>
 pA Tryd.prog (oFld 67 x10 0) fun x11 =>
 pA Tryd.prog (oFld 23 x11 1) fun x12 =>
 pL Tryd.prog (oLoad 3 x12) w1 fun x13 =>
 pA Tryd.prog (oBin .shl 3 (.const (.int .i64 1)) (.tmp 13) (.int .i64 1) x13) fun x14 =>
 pA Tryd.prog (oBin .sub 3 (.tmp 14) (.const (.int .i64 1)) x14 (.int .i64 1)) fun x15 =>
 pA Tryd.prog (oBin .and 3 (.tmp 8) (.tmp 15) x1 x15) fun x16 =>
 pA Tryd.prog (oNil x0) fun x18 =>
 pA Tryd.prog (oFld 67 x18 0) fun x19 =>
 pA Tryd.prog (oFld 23 x19 0) fun x20 =>
 pL Tryd.prog (oLoad 3 x20) w1 fun x21 =>
 pA Tryd.prog (oBin .shl 3 (.tmp 16) (.tmp 21) x16 x21) fun x22 =>
 pL Tryd.prog (oConv 5 3 x2) w1 fun x24 =>
 pA Tryd.prog (oNil x0) fun x26 =>
 pA Tryd.prog (oFld 67 x26 0) fun x27 =>
 pA Tryd.prog (oFld 23 x27 0) fun x28 =>
 pL Tryd.prog (oLoad 3 x28) w1 fun x29 =>
 pA Tryd.prog (oBin .sub 3 (.const (.int .i64 8)) (.tmp 29) (.int .i64 8) x29) fun x30 =>
 pA Tryd.prog (oBin .shr 3 (.tmp 24) (.tmp 30) x24 x30) fun x31 =>
 pA Tryd.prog (oBin .add 3 (.tmp 22) (.tmp 31) x22 x31) fun x32 =>
 pN Tryd.prog (oBin .mul 3 (.const (.int .i64 768)) (.tmp 33) (.int .i64 768) x32) w1 fun x34 w2 =>
 Q x34 w2
noncomputable def model_Tables_Context.c : Code := match Tryd.f50.body with | some c => c | none => .skip
theorem model_Tables_Context.eq [Pan] (x0 : Value) (x1 : Value) (x2 : Value) (w : World) (Q : Value → World → Prop) : cw Tryd.prog model_Tables_Context.H model_Tables_Context.c (endQ Tryd.prog Tryd.f50.results.toList Q) (argsE [x0, x1, x2]) w = model_Tables_Context.F x0 x1 x2 w Q := by kernel_rfl
theorem model_Tables_Context.calls [Pan] {x0 : Value} {x1 : Value} {x2 : Value} {w : World} {Q : Value → World → Prop} (h : model_Tables_Context.F x0 x1 x2 w Q) : Calls Tryd.prog 50 #[x0, x1, x2] w (retP Q) :=
  calls_of_cw (H := model_Tables_Context.H) (c := model_Tables_Context.c) (args := [x0, x1, x2]) mixed Tryd.func50 (by kernel_rfl) (by kernel_rfl) (Nat.le_of_ble_eq_true (by kernel_rfl)) ((model_Tables_Context.eq x0 x1 x2 w Q).mpr h)

/-! model_Late: pith/model.Late; temporaries: 0:slot 1:slot -/
def model_Late.H : Hints := { cut := fun  | _ => none, loop := fun  | _ => ([], 0), order := fun  | _ => [] }
def model_Late.F [Pan] (x0 : Value) (w : World) (Q : Value → World → Prop) : Prop :=
 pN Tryd.prog (oBin .geq 3 (.tmp 3) (.const (.int .i64 14)) x0 (.int .i64 14)) w fun x4 w1 =>
 Q x4 w1
noncomputable def model_Late.c : Code := match Tryd.f54.body with | some c => c | none => .skip
theorem model_Late.eq [Pan] (x0 : Value) (w : World) (Q : Value → World → Prop) : cw Tryd.prog model_Late.H model_Late.c (endQ Tryd.prog Tryd.f54.results.toList Q) (argsE [x0]) w = model_Late.F x0 w Q := by kernel_rfl
theorem model_Late.calls [Pan] {x0 : Value} {w : World} {Q : Value → World → Prop} (h : model_Late.F x0 w Q) : Calls Tryd.prog 54 #[x0] w (retP Q) :=
  calls_of_cw (H := model_Late.H) (c := model_Late.c) (args := [x0]) mixed Tryd.func54 (by kernel_rfl) (by kernel_rfl) (Nat.le_of_ble_eq_true (by kernel_rfl)) ((model_Late.eq x0 w Q).mpr h)

/-! model_RestAt: pith/model.RestAt; temporaries: 0:slot 1:slot 3:at 4:s 5:_ 6:bits 7:_ -/
def model_RestAt.H : Hints := { cut := fun  | _ => none, loop := fun | 3 => ([3, 4], 8388600) | _ => ([], 0), order := fun  | _ => [] }
def model_RestAt.F [Pan] (x0 : Value) (w : World) (Q : Value → World → Prop) : Prop :=
 ∃ (L3 : Value → Value → World → Prop) (m3 : Value → Value → World → Nat),
 L3 (.int .i64 0) (.int .i64 4) w ∧
 ∀ (_k3 : Env) (at3l3 : Value) (s4l3 : Value) (w1 : World), L3 at3l3 s4l3 w1 →
 pN Tryd.prog (oBin .lss 3 (.tmp 8) (.tmp 9) s4l3 x0) w1 fun x10 w2 =>
 pIf x10
 (pN Tryd.prog (oCall 53 [s4l3]) w2 fun x15 w3 =>
 pN Tryd.prog (oExt x15 0) w3 fun _ w4 =>
 pN Tryd.prog (oExt x15 1) w4 fun x17 w5 =>
 pN Tryd.prog (oExt x15 2) w5 fun _ w6 =>
 pN Tryd.prog (oBin .shl 3 (.const (.int .i64 1)) (.tmp 20) (.int .i64 1) x17) w6 fun x21 w7 =>
 pN Tryd.prog (oBin .add 3 (.tmp 19) (.tmp 21) at3l3 x21) w7 fun x22 w8 =>
 pN Tryd.prog (oBin .add 3 (.tmp 11) (.const (.int .i64 1)) s4l3 (.int .i64 1)) w8 fun x12 w9 =>
 (L3 x22 x12 w9 ∧ m3 x22 x12 w9 < m3 at3l3 s4l3 w1))
 (Q at3l3 w2)
noncomputable def model_RestAt.c : Code := match Tryd.f55.body with | some c => c | none => .skip
theorem model_RestAt.eq [Pan] (x0 : Value) (w : World) (Q : Value → World → Prop) : cw Tryd.prog model_RestAt.H model_RestAt.c (endQ Tryd.prog Tryd.f55.results.toList Q) (argsE [x0]) w = model_RestAt.F x0 w Q := by kernel_rfl
theorem model_RestAt.calls [Pan] {x0 : Value} {w : World} {Q : Value → World → Prop} (h : model_RestAt.F x0 w Q) : Calls Tryd.prog 55 #[x0] w (retP Q) :=
  calls_of_cw (H := model_RestAt.H) (c := model_RestAt.c) (args := [x0]) mixed Tryd.func55 (by kernel_rfl) (by kernel_rfl) (Nat.le_of_ble_eq_true (by kernel_rfl)) ((model_RestAt.eq x0 w Q).mpr h)

end Go.Proofs.YtbgnnjfpiblkmaaDoor
