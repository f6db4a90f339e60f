/-
  Printed by a program of mine (lift.py): each function of the seat as a plain proposition over values and worlds; that the program meets it.
-/
import Derived.Test.YteeepkimnpabiaaDoorRows
import Derived.Test.YteeepkimnpabiaaDoorFacts
namespace Go.Proofs.YteeepkimnpabiaaDoor
open Go
set_option linter.unusedSimpArgs false
set_option linter.unnecessarySimpa false
set_option linter.unusedSectionVars false
set_option linter.unusedVariables false
set_option maxRecDepth 100000

/-! bytes_Equal: bytes.Equal; temporaries: 0:a 1:b 2:a 3:b -/
def bytes_Equal.H : Hints := { cut := fun  | _ => none, loop := fun  | _ => ([], 0), order := fun  | _ => [] }
def bytes_Equal.F [Pan] (x0 : Value) (x1 : Value) (w : World) (Q : Value → World → Prop) : Prop :=
 pN Tryd.prog (oConv 22 9 x0) w fun x6 w1 =>
 pN Tryd.prog (oConv 22 9 x1) w1 fun x8 w2 =>
 pN Tryd.prog (oBin .eql 9 (.tmp 6) (.tmp 8) x6 x8) w2 fun x9 w3 =>
 Q x9 w3
noncomputable def bytes_Equal.c : Code := match Tryd.f29.body with | some c => c | none => .skip
theorem bytes_Equal.eq [Pan] (x0 : Value) (x1 : Value) (w : World) (Q : Value → World → Prop) : cw Tryd.prog bytes_Equal.H bytes_Equal.c (endQ Tryd.prog Tryd.f29.results.toList Q) (argsE [x0, x1]) w = bytes_Equal.F x0 x1 w Q := by kernel_rfl
theorem bytes_Equal.calls [Pan] {x0 : Value} {x1 : Value} {w : World} {Q : Value → World → Prop} (h : bytes_Equal.F x0 x1 w Q) : Calls Tryd.prog 29 #[x0, x1] w (retP Q) :=
  calls_of_cw (H := bytes_Equal.H) (c := bytes_Equal.c) (args := [x0, x1]) mixed Tryd.func29 (by kernel_rfl) (by kernel_rfl) (Nat.le_of_ble_eq_true (by kernel_rfl)) ((bytes_Equal.eq x0 x1 w Q).mpr h)

/-! bytes_Clone: bytes.Clone; temporaries: 0:b 1:b -/
def bytes_Clone.H : Hints := { cut := fun  | _ => none, loop := fun  | _ => ([], 0), order := fun  | _ => [] }
def bytes_Clone.F [Pan] (x0 : Value) (w : World) (Q : Value → World → Prop) : Prop :=
 pN Tryd.prog (oBin .eql 22 (.tmp 3) (.const (.slice none 0 0)) x0 (.slice none 0 0)) w fun x4 w1 =>
 pIf x4
 (Q (.slice none 0 0) w1)
 (pN Tryd.prog (oBs 22 0 []) w1 fun x5 w2 =>
 pN Tryd.prog (oBi .append #[22, 22] 22 [false, false] [x5, x0]) w2 fun x7 w3 =>
 Q x7 w3)
noncomputable def bytes_Clone.c : Code := match Tryd.f41.body with | some c => c | none => .skip
theorem bytes_Clone.eq [Pan] (x0 : Value) (w : World) (Q : Value → World → Prop) : cw Tryd.prog bytes_Clone.H bytes_Clone.c (endQ Tryd.prog Tryd.f41.results.toList Q) (argsE [x0]) w = bytes_Clone.F x0 w Q := by kernel_rfl
theorem bytes_Clone.calls [Pan] {x0 : Value} {w : World} {Q : Value → World → Prop} (h : bytes_Clone.F x0 w Q) : Calls Tryd.prog 41 #[x0] w (retP Q) :=
  calls_of_cw (H := bytes_Clone.H) (c := bytes_Clone.c) (args := [x0]) mixed Tryd.func41 (by kernel_rfl) (by kernel_rfl) (Nat.le_of_ble_eq_true (by kernel_rfl)) ((bytes_Clone.eq x0 w Q).mpr h)

/-! bytes_TrimLeft: bytes.TrimLeft; temporaries: 0:s 1:cutset 2:s 3:cutset 5:as 6:ok -/
def bytes_TrimLeft.H : Hints := { cut := fun  | _ => none, loop := fun  | _ => ([], 0), order := fun  | _ => [] }
def bytes_TrimLeft.F [Pan] (x0 : Value) (x1 : Value) (w : World) (Q : Value → World → Prop) : Prop :=
 pN Tryd.prog (oBi .len #[22] 3 [false] [x0]) w fun x8 w1 =>
 pN Tryd.prog (oBin .eql 3 (.tmp 8) (.const (.int .i64 0)) x8 (.int .i64 0)) w1 fun x9 w2 =>
 pIf x9
 (Q (.slice none 0 0) w2)
 (pN Tryd.prog (oBin .eql 9 (.tmp 10) (.const (.string ⟨#[]⟩)) x1 (.string ⟨#[]⟩)) w2 fun x11 w3 =>
 pIf x11
 (Q x0 w3)
 (pN Tryd.prog (oBi .len #[9] 3 [false] [x1]) w3 fun x14 w4 =>
 pN Tryd.prog (oBin .eql 3 (.tmp 14) (.const (.int .i64 1)) x14 (.int .i64 1)) w4 fun x15 w5 =>
 pGd (gB x15 true) (pN Tryd.prog (oMv x1) w5) w5 fun x17 w6 =>
 pGd (gB x15 true) (pN Tryd.prog (oIndex 9 x17 (.int .i64 0)) w6) w6 fun x18 w7 =>
 pGd (gB x15 true) (pN Tryd.prog (oBin .lss 5 (.tmp 18) (.const (.int .u8 128)) x18 (bv 128)) w7) w7 fun x19 w8 =>
 pN Tryd.prog (oPick x15 x19 (.bool false)) w8 fun x20 w9 =>
 pIf x20
 (pN Tryd.prog (oIndex 9 x1 (.int .i64 0)) w9 fun x23 w10 =>
 pN Tryd.prog (oCall 72 [x0, x23]) w10 fun x24 w11 =>
 Q x24 w11)
 (pN Tryd.prog (oCall 73 [x1]) w9 fun x27 w12 =>
 pN Tryd.prog (oExt x27 0) w12 fun x28 w13 =>
 pN Tryd.prog (oExt x27 1) w13 fun x29 w14 =>
 pN Tryd.prog (oAlloc 100) w14 fun x5 w15 =>
 pN Tryd.prog (oStore 100 x5 x28) w15 fun _ w16 =>
 pIf x29
 (pN Tryd.prog (oCall 74 [x0, x5]) w16 fun x32 w17 =>
 Q x32 w17)
 (pN Tryd.prog (oCall 75 [x0, x1]) w16 fun x35 w18 =>
 Q x35 w18))))
noncomputable def bytes_TrimLeft.c : Code := match Tryd.f64.body with | some c => c | none => .skip
theorem bytes_TrimLeft.eq [Pan] (x0 : Value) (x1 : Value) (w : World) (Q : Value → World → Prop) : cw Tryd.prog bytes_TrimLeft.H bytes_TrimLeft.c (endQ Tryd.prog Tryd.f64.results.toList Q) (argsE [x0, x1]) w = bytes_TrimLeft.F x0 x1 w Q := by kernel_rfl
theorem bytes_TrimLeft.calls [Pan] {x0 : Value} {x1 : Value} {w : World} {Q : Value → World → Prop} (h : bytes_TrimLeft.F x0 x1 w Q) : Calls Tryd.prog 64 #[x0, x1] w (retP Q) :=
  calls_of_cw (H := bytes_TrimLeft.H) (c := bytes_TrimLeft.c) (args := [x0, x1]) mixed Tryd.func64 (by kernel_rfl) (by kernel_rfl) (Nat.le_of_ble_eq_true (by kernel_rfl)) ((bytes_TrimLeft.eq x0 x1 w Q).mpr h)

/-! bytes_Cut: bytes.Cut; temporaries: 0:s 1:sep 2:s 3:sep 4:before 5:after 6:found 7:i -/
def bytes_Cut.H : Hints := { cut := fun  | _ => none, loop := fun  | _ => ([], 0), order := fun | 3 => [(0, 0), (1, 1), (2, 3), (3, 7), (4, 15), (5, 31), (6, 63), (7, 127), (8, 255), (9, 511), (10, 1023), (11, 2047)] | _ => [] }
def bytes_Cut.F [Pan] (x0 : Value) (x1 : Value) (w : World) (Q : Value → World → Prop) : Prop :=
 pN Tryd.prog (oCall 77 [x0, x1]) w fun x10 w1 =>
 pN Tryd.prog (oBin .geq 3 (.tmp 11) (.const (.int .i64 0)) x10 (.int .i64 0)) w1 fun x12 w2 =>
 pIf x12
 (pDr w2 fun w3 =>
 pA Tryd.prog (oSl 22 x0 none (some x10) none) fun x15 =>
 pA Tryd.prog (oBi .len #[22] 3 [false] [x1]) fun x19 =>
 pA Tryd.prog (oBin .add 3 (.tmp 17) (.tmp 19) x10 x19) fun x20 =>
 pA Tryd.prog (oSl 22 x0 (some x20) none none) fun x21 =>
 Q (.tuple #[x15, x21, (.bool true)]) w3)
 (Q (.tuple #[x0, (.slice none 0 0), (.bool false)]) w2)
noncomputable def bytes_Cut.c : Code := match Tryd.f71.body with | some c => c | none => .skip
theorem bytes_Cut.eq [Pan] (x0 : Value) (x1 : Value) (w : World) (Q : Value → World → Prop) : cw Tryd.prog bytes_Cut.H bytes_Cut.c (endQ Tryd.prog Tryd.f71.results.toList Q) (argsE [x0, x1]) w = bytes_Cut.F x0 x1 w Q := by kernel_rfl
theorem bytes_Cut.calls [Pan] {x0 : Value} {x1 : Value} {w : World} {Q : Value → World → Prop} (h : bytes_Cut.F x0 x1 w Q) : Calls Tryd.prog 71 #[x0, x1] w (retP Q) :=
  calls_of_cw (H := bytes_Cut.H) (c := bytes_Cut.c) (args := [x0, x1]) mixed Tryd.func71 (by kernel_rfl) (by kernel_rfl) (Nat.le_of_ble_eq_true (by kernel_rfl)) ((bytes_Cut.eq x0 x1 w Q).mpr h)

/-! bytes_trimLeftByte: bytes.trimLeftByte; temporaries: 0:s 1:c 2:s 3:c -/
def bytes_trimLeftByte.H : Hints := { cut := fun  | _ => none, loop := fun | 1 => ([0], 131041) | _ => ([], 0), order := fun  | _ => [] }
def bytes_trimLeftByte.F [Pan] (x0 : Value) (x1 : Value) (w : World) (Q : Value → World → Prop) : Prop :=
 ∃ (L1 : Value → World → Prop) (m1 : Value → World → Nat),
 L1 x0 w ∧
 ∀ (_k1 : Env) (s0l1 : Value) (w1 : World), L1 s0l1 w1 →
 pN Tryd.prog (oBi .len #[22] 3 [false] [s0l1]) w1 fun x6 w2 =>
 pN Tryd.prog (oBin .gtr 3 (.tmp 6) (.const (.int .i64 0)) x6 (.int .i64 0)) w2 fun x7 w3 =>
 pGd (gB x7 true) (pN Tryd.prog (oMv s0l1) w3) w3 fun x9 w4 =>
 pGd (gB x7 true) (pN Tryd.prog (oIdx 22 x9 (.int .i64 0)) w4) w4 fun x10 w5 =>
 pGd (gB x7 true) (pN Tryd.prog (oLoad 5 x10) w5) w5 fun x11 w6 =>
 pGd (gB x7 true) (pN Tryd.prog (oMv x1) w6) w6 fun x12 w7 =>
 pGd (gB x7 true) (pN Tryd.prog (oBin .eql 5 (.tmp 11) (.tmp 12) x11 x12) w7) w7 fun x13 w8 =>
 pN Tryd.prog (oPick x7 x13 (.bool false)) w8 fun x14 w9 =>
 pIf x14
 (pN Tryd.prog (oSl 22 s0l1 (some (.int .i64 1)) none none) w9 fun x16 w10 =>
 (L1 x16 w10 ∧ m1 x16 w10 < m1 s0l1 w1))
 (pN Tryd.prog (oBi .len #[22] 3 [false] [s0l1]) w9 fun x18 w11 =>
 pN Tryd.prog (oBin .eql 3 (.tmp 18) (.const (.int .i64 0)) x18 (.int .i64 0)) w11 fun x19 w12 =>
 pIf x19
 (Q (.slice none 0 0) w12)
 (Q s0l1 w12))
noncomputable def bytes_trimLeftByte.c : Code := match Tryd.f72.body with | some c => c | none => .skip
theorem bytes_trimLeftByte.eq [Pan] (x0 : Value) (x1 : Value) (w : World) (Q : Value → World → Prop) : cw Tryd.prog bytes_trimLeftByte.H bytes_trimLeftByte.c (endQ Tryd.prog Tryd.f72.results.toList Q) (argsE [x0, x1]) w = bytes_trimLeftByte.F x0 x1 w Q := by kernel_rfl
theorem bytes_trimLeftByte.calls [Pan] {x0 : Value} {x1 : Value} {w : World} {Q : Value → World → Prop} (h : bytes_trimLeftByte.F x0 x1 w Q) : Calls Tryd.prog 72 #[x0, x1] w (retP Q) :=
  calls_of_cw (H := bytes_trimLeftByte.H) (c := bytes_trimLeftByte.c) (args := [x0, x1]) mixed Tryd.func72 (by kernel_rfl) (by kernel_rfl) (Nat.le_of_ble_eq_true (by kernel_rfl)) ((bytes_trimLeftByte.eq x0 x1 w Q).mpr h)

/-! bytes_makeASCIISet: bytes.makeASCIISet; temporaries: 0:chars 1:chars 2:as 3:ok 4:i 5:c -/
def bytes_makeASCIISet.H : Hints := { cut := fun  | _ => none, loop := fun | 2 => ([4], 1048568) | _ => ([], 0), order := fun  | _ => [] }
def bytes_makeASCIISet.F [Pan] (x0 : Value) (w : World) (Q : Value → World → Prop) : Prop :=
 pN Tryd.prog (oAlloc 100) w fun x2 w1 =>
 ∃ (L2 : Value → World → Prop) (m2 : Value → World → Nat),
 L2 (.int .i64 0) w1 ∧
 ∀ (_k2 : Env) (i4l2 : Value) (w2 : World), L2 i4l2 w2 →
 pN Tryd.prog (oBi .len #[9] 3 [false] [x0]) w2 fun x8 w3 =>
 pN Tryd.prog (oBin .lss 3 (.tmp 6) (.tmp 8) i4l2 x8) w3 fun x9 w4 =>
 pIf x9
 (pN Tryd.prog (oIndex 9 x0 i4l2) w4 fun x14 w5 =>
 pN Tryd.prog (oBin .geq 5 (.tmp 15) (.const (.int .u8 128)) x14 (bv 128)) w5 fun x16 w6 =>
 pIf x16
 (pN Tryd.prog (oLoad 100 x2) w6 fun x17 w7 =>
 pN Tryd.prog (oStore 100 x2 x17) w7 fun _ w8 =>
 pL Tryd.prog (oRes 100 x2) w8 fun r2 =>
 Q (.tuple #[r2, (.bool false)]) w8)
 (pN Tryd.prog (oIdx 100 x2 x14) w6 fun x19 w9 =>
 pN Tryd.prog (oStore 4 x19 (.bool true)) w9 fun _ w10 =>
 pN Tryd.prog (oBin .add 3 (.tmp 10) (.const (.int .i64 1)) i4l2 (.int .i64 1)) w10 fun x11 w11 =>
 (L2 x11 w11 ∧ m2 x11 w11 < m2 i4l2 w2)))
 (pN Tryd.prog (oLoad 100 x2) w4 fun x20 w12 =>
 pN Tryd.prog (oStore 100 x2 x20) w12 fun _ w13 =>
 pL Tryd.prog (oRes 100 x2) w13 fun r2 =>
 Q (.tuple #[r2, (.bool true)]) w13)
noncomputable def bytes_makeASCIISet.c : Code := match Tryd.f73.body with | some c => c | none => .skip
theorem bytes_makeASCIISet.eq [Pan] (x0 : Value) (w : World) (Q : Value → World → Prop) : cw Tryd.prog bytes_makeASCIISet.H bytes_makeASCIISet.c (endQ Tryd.prog Tryd.f73.results.toList Q) (argsE [x0]) w = bytes_makeASCIISet.F x0 w Q := by kernel_rfl
theorem bytes_makeASCIISet.calls [Pan] {x0 : Value} {w : World} {Q : Value → World → Prop} (h : bytes_makeASCIISet.F x0 w Q) : Calls Tryd.prog 73 #[x0] w (retP Q) :=
  calls_of_cw (H := bytes_makeASCIISet.H) (c := bytes_makeASCIISet.c) (args := [x0]) mixed Tryd.func73 (by kernel_rfl) (by kernel_rfl) (Nat.le_of_ble_eq_true (by kernel_rfl)) ((bytes_makeASCIISet.eq x0 w Q).mpr h)

/-! bytes_trimLeftASCII: bytes.trimLeftASCII; temporaries: 0:s 1:as 2:s 3:as -/
def bytes_trimLeftASCII.H : Hints := { cut := fun | 4 => some ([0], 65505) | _ => none, loop := fun | 1 => ([0], 65505) | _ => ([], 0), order := fun  | _ => [] }
def bytes_trimLeftASCII.F [Pan] (x0 : Value) (x1 : Value) (w : World) (Q : Value → World → Prop) : Prop :=
 ∃ I4 : Value → World → Prop,
 (∃ (L1 : Value → World → Prop) (m1 : Value → World → Nat),
 L1 x0 w ∧
 ∀ (_k1 : Env) (s0l1 : Value) (w1 : World), L1 s0l1 w1 →
 pN Tryd.prog (oBi .len #[22] 3 [false] [s0l1]) w1 fun x6 w2 =>
 pN Tryd.prog (oBin .gtr 3 (.tmp 6) (.const (.int .i64 0)) x6 (.int .i64 0)) w2 fun x7 w3 =>
 pIf x7
 (pN Tryd.prog (oIdx 22 s0l1 (.int .i64 0)) w3 fun x10 w4 =>
 pN Tryd.prog (oLoad 5 x10) w4 fun x11 w5 =>
 pN Tryd.prog (oCall 78 [x1, x11]) w5 fun x12 w6 =>
 pN Tryd.prog (oUn .not x12) w6 fun x13 w7 =>
 pIf x13
 (I4 s0l1 w7)
 (pN Tryd.prog (oSl 22 s0l1 (some (.int .i64 1)) none none) w7 fun x15 w8 =>
 (L1 x15 w8 ∧ m1 x15 w8 < m1 s0l1 w1)))
 (I4 s0l1 w3)) ∧
 ∀ (_j4 : Env) (s0c4 : Value) (w9 : World), I4 s0c4 w9 →
 pN Tryd.prog (oBi .len #[22] 3 [false] [s0c4]) w9 fun x17 w10 =>
 pN Tryd.prog (oBin .eql 3 (.tmp 17) (.const (.int .i64 0)) x17 (.int .i64 0)) w10 fun x18 w11 =>
 pIf x18
 (Q (.slice none 0 0) w11)
 (Q s0c4 w11)
noncomputable def bytes_trimLeftASCII.c : Code := match Tryd.f74.body with | some c => c | none => .skip
theorem bytes_trimLeftASCII.eq [Pan] (x0 : Value) (x1 : Value) (w : World) (Q : Value → World → Prop) : cw Tryd.prog bytes_trimLeftASCII.H bytes_trimLeftASCII.c (endQ Tryd.prog Tryd.f74.results.toList Q) (argsE [x0, x1]) w = bytes_trimLeftASCII.F x0 x1 w Q := by kernel_rfl
theorem bytes_trimLeftASCII.calls [Pan] {x0 : Value} {x1 : Value} {w : World} {Q : Value → World → Prop} (h : bytes_trimLeftASCII.F x0 x1 w Q) : Calls Tryd.prog 74 #[x0, x1] w (retP Q) :=
  calls_of_cw (H := bytes_trimLeftASCII.H) (c := bytes_trimLeftASCII.c) (args := [x0, x1]) mixed Tryd.func74 (by kernel_rfl) (by kernel_rfl) (Nat.le_of_ble_eq_true (by kernel_rfl)) ((bytes_trimLeftASCII.eq x0 x1 w Q).mpr h)

/-! bytes_trimLeftUnicode: bytes.trimLeftUnicode; temporaries: 0:s 1:cutset 2:s 3:cutset 5:r 6:n -/
def bytes_trimLeftUnicode.H : Hints := { cut := fun | 5 => some ([0], 4194273) | _ => none, loop := fun | 1 => ([0], 4194273) | _ => ([], 0), order := fun  | _ => [] }
def bytes_trimLeftUnicode.F [Pan] (x0 : Value) (x1 : Value) (w : World) (Q : Value → World → Prop) : Prop :=
 ∃ I5 : Value → World → Prop,
 (∃ (L1 : Value → World → Prop) (m1 : Value → World → Nat),
 L1 x0 w ∧
 ∀ (_k1 : Env) (s0l1 : Value) (w1 : World), L1 s0l1 w1 →
 pN Tryd.prog (oBi .len #[22] 3 [false] [s0l1]) w1 fun x8 w2 =>
 pN Tryd.prog (oBin .gtr 3 (.tmp 8) (.const (.int .i64 0)) x8 (.int .i64 0)) w2 fun x9 w3 =>
 pIf x9
 (pN Tryd.prog (oCall 79 [s0l1]) w3 fun x12 w4 =>
 pN Tryd.prog (oExt x12 0) w4 fun x13 w5 =>
 pN Tryd.prog (oExt x12 1) w5 fun x14 w6 =>
 pN Tryd.prog (oCall 80 [x1, x13]) w6 fun x17 w7 =>
 pN Tryd.prog (oUn .not x17) w7 fun x18 w8 =>
 pIf x18
 (I5 s0l1 w8)
 (pN Tryd.prog (oSl 22 s0l1 (some x14) none none) w8 fun x21 w9 =>
 (L1 x21 w9 ∧ m1 x21 w9 < m1 s0l1 w1)))
 (I5 s0l1 w3)) ∧
 ∀ (_j5 : Env) (s0c5 : Value) (w10 : World), I5 s0c5 w10 →
 pN Tryd.prog (oBi .len #[22] 3 [false] [s0c5]) w10 fun x23 w11 =>
 pN Tryd.prog (oBin .eql 3 (.tmp 23) (.const (.int .i64 0)) x23 (.int .i64 0)) w11 fun x24 w12 =>
 pIf x24
 (Q (.slice none 0 0) w12)
 (Q s0c5 w12)
noncomputable def bytes_trimLeftUnicode.c : Code := match Tryd.f75.body with | some c => c | none => .skip
theorem bytes_trimLeftUnicode.eq [Pan] (x0 : Value) (x1 : Value) (w : World) (Q : Value → World → Prop) : cw Tryd.prog bytes_trimLeftUnicode.H bytes_trimLeftUnicode.c (endQ Tryd.prog Tryd.f75.results.toList Q) (argsE [x0, x1]) w = bytes_trimLeftUnicode.F x0 x1 w Q := by kernel_rfl
theorem bytes_trimLeftUnicode.calls [Pan] {x0 : Value} {x1 : Value} {w : World} {Q : Value → World → Prop} (h : bytes_trimLeftUnicode.F x0 x1 w Q) : Calls Tryd.prog 75 #[x0, x1] w (retP Q) :=
  calls_of_cw (H := bytes_trimLeftUnicode.H) (c := bytes_trimLeftUnicode.c) (args := [x0, x1]) mixed Tryd.func75 (by kernel_rfl) (by kernel_rfl) (Nat.le_of_ble_eq_true (by kernel_rfl)) ((bytes_trimLeftUnicode.eq x0 x1 w Q).mpr h)

/-! bytes_Index: bytes.Index; temporaries: 0:s 1:sep 2:s 3:sep 5:n 6:c0 7:c1 8:i 9:t 10:fails 11:o 12:r 13:c0 14:c1 15:i 16:fails 17:t 18:o 19:j -/
def bytes_Index.H : Hints := { cut := fun | 26 => some ([8], 618968839051069420038261008) | 46 => some ([15], 365374712434438275468948035187874734652686368768) | 55 => some ([], 1606938044258990275454849806409402355875579094280260174053392) | _ => none, loop := fun | 20 => ([8, 10], 42535295865117307785347873339294620944) | 41 => ([15, 16], 1606938044258990275454849806409402355875579094280260174053392) | _ => ([], 0), order := fun  | _ => [] }
def bytes_Index.F [Pan] (x0 : Value) (x1 : Value) (w : World) (Q : Value → World → Prop) : Prop :=
 pN Tryd.prog (oBi .len #[22] 3 [false] [x1]) w fun x21 w1 =>
 pN Tryd.prog (oBin .eql 3 (.tmp 23) (.const (.int .i64 0)) x21 (.int .i64 0)) w1 fun x24 w2 =>
 pIf x24
 (Q (.int .i64 0) w2)
 (pN Tryd.prog (oBin .eql 3 (.tmp 26) (.const (.int .i64 1)) x21 (.int .i64 1)) w2 fun x27 w3 =>
 pIf x27
 (pN Tryd.prog (oIdx 22 x1 (.int .i64 0)) w3 fun x30 w4 =>
 pN Tryd.prog (oLoad 5 x30) w4 fun x31 w5 =>
 pN Tryd.prog (oCall 81 [x0, x31]) w5 fun x32 w6 =>
 Q x32 w6)
 (pN Tryd.prog (oBi .len #[22] 3 [false] [x0]) w3 fun x36 w7 =>
 pN Tryd.prog (oBin .eql 3 (.tmp 34) (.tmp 36) x21 x36) w7 fun x37 w8 =>
 pIf x37
 (pN Tryd.prog (oCall 29 [x1, x0]) w8 fun x40 w9 =>
 pIf x40
 (Q (.int .i64 0) w9)
 (Q (.int .i64 (-1)) w9))
 (pN Tryd.prog (oBi .len #[22] 3 [false] [x0]) w8 fun x44 w10 =>
 pN Tryd.prog (oBin .gtr 3 (.tmp 42) (.tmp 44) x21 x44) w10 fun x45 w11 =>
 pIf x45
 (Q (.int .i64 (-1)) w11)
 (pN Tryd.prog (oLoad 3 (.pointer (some ⟨0, 0, none⟩))) w11 fun x48 w12 =>
 pN Tryd.prog (oBin .leq 3 (.tmp 47) (.tmp 48) x21 x48) w12 fun x49 w13 =>
 pIf x49
 (pN Tryd.prog (oBi .len #[22] 3 [false] [x0]) w13 fun x51 w14 =>
 pN Tryd.prog (oBin .leq 3 (.tmp 51) (.const (.int .i64 64)) x51 (.int .i64 64)) w14 fun x52 w15 =>
 pIf x52
 (pN Tryd.prog (oCall 82 [x0, x1]) w15 fun x55 w16 =>
 Q x55 w16)
 (pN Tryd.prog (oIdx 22 x1 (.int .i64 0)) w15 fun x57 w17 =>
 pN Tryd.prog (oLoad 5 x57) w17 fun x58 w18 =>
 pN Tryd.prog (oIdx 22 x1 (.int .i64 1)) w18 fun x60 w19 =>
 pN Tryd.prog (oLoad 5 x60) w19 fun x61 w20 =>
 pN Tryd.prog (oBi .len #[22] 3 [false] [x0]) w20 fun x63 w21 =>
 pN Tryd.prog (oBin .sub 3 (.tmp 63) (.tmp 64) x63 x21) w21 fun x65 w22 =>
 pN Tryd.prog (oBin .add 3 (.tmp 65) (.const (.int .i64 1)) x65 (.int .i64 1)) w22 fun x66 w23 =>
 ∃ (L20 : Value → Value → World → Prop) (m20 : Value → Value → World → Nat),
 L20 (.int .i64 0) (.int .i64 0) w23 ∧
 ∀ (_k20 : Env) (i8l20 : Value) (fails10l20 : Value) (w24 : World), L20 i8l20 fails10l20 w24 →
 pN Tryd.prog (oBin .lss 3 (.tmp 67) (.tmp 68) i8l20 x66) w24 fun x69 w25 =>
 pIf x69
 (∃ I26 : Value → World → Prop,
 (pN Tryd.prog (oIdx 22 x0 i8l20) w25 fun x72 w26 =>
 pN Tryd.prog (oLoad 5 x72) w26 fun x73 w27 =>
 pN Tryd.prog (oBin .neq 5 (.tmp 73) (.tmp 74) x73 x58) w27 fun x75 w28 =>
 pIf x75
 (pN Tryd.prog (oBin .add 3 (.tmp 77) (.const (.int .i64 1)) i8l20 (.int .i64 1)) w28 fun x78 w29 =>
 pN Tryd.prog (oSl 22 x0 (some x78) (some x66) none) w29 fun x80 w30 =>
 pN Tryd.prog (oCall 81 [x80, x58]) w30 fun x82 w31 =>
 pN Tryd.prog (oBin .lss 3 (.tmp 83) (.const (.int .i64 0)) x82 (.int .i64 0)) w31 fun x84 w32 =>
 pIf x84
 (Q (.int .i64 (-1)) w32)
 (pN Tryd.prog (oBin .add 3 (.tmp 86) (.const (.int .i64 1)) x82 (.int .i64 1)) w32 fun x87 w33 =>
 pN Tryd.prog (oBin .add 3 (.tmp 85) (.tmp 87) i8l20 x87) w33 fun x88 w34 =>
 I26 x88 w34))
 (I26 i8l20 w28)) ∧
 ∀ (_j26 : Env) (i8c26 : Value) (w35 : World), I26 i8c26 w35 →
 pN Tryd.prog (oBin .add 3 (.tmp 90) (.const (.int .i64 1)) i8c26 (.int .i64 1)) w35 fun x91 w36 =>
 pN Tryd.prog (oIdx 22 x0 x91) w36 fun x92 w37 =>
 pN Tryd.prog (oLoad 5 x92) w37 fun x93 w38 =>
 pN Tryd.prog (oBin .eql 5 (.tmp 93) (.tmp 94) x93 x61) w38 fun x95 w39 =>
 pGd (gB x95 true) (pN Tryd.prog (oMv x0) w39) w39 fun x97 w40 =>
 pGd (gB x95 true) (pN Tryd.prog (oMv i8c26) w40) w40 fun x98 w41 =>
 pGd (gB x95 true) (pN Tryd.prog (oMv i8c26) w41) w41 fun x99 w42 =>
 pGd (gB x95 true) (pN Tryd.prog (oMv x21) w42) w42 fun x100 w43 =>
 pGd (gB x95 true) (pN Tryd.prog (oBin .add 3 (.tmp 99) (.tmp 100) x99 x100) w43) w43 fun x101 w44 =>
 pGd (gB x95 true) (pN Tryd.prog (oSl 22 x97 (some x98) (some x101) none) w44) w44 fun x102 w45 =>
 pGd (gB x95 true) (pN Tryd.prog (oMv x1) w45) w45 fun x103 w46 =>
 pGd (gB x95 true) (pN Tryd.prog (oCall 29 [x102, x103]) w46) w46 fun x104 w47 =>
 pN Tryd.prog (oPick x95 x104 (.bool false)) w47 fun x105 w48 =>
 pIf x105
 (Q i8c26 w48)
 (pN Tryd.prog (oBin .add 3 (.tmp 107) (.const (.int .i64 1)) fails10l20 (.int .i64 1)) w48 fun x108 w49 =>
 pN Tryd.prog (oBin .add 3 (.tmp 109) (.const (.int .i64 1)) i8c26 (.int .i64 1)) w49 fun x110 w50 =>
 pN Tryd.prog (oCall 83 [x110]) w50 fun x113 w51 =>
 pN Tryd.prog (oBin .gtr 3 (.tmp 111) (.tmp 113) x108 x113) w51 fun x114 w52 =>
 pIf x114
 (pN Tryd.prog (oSl 22 x0 (some x110) none none) w52 fun x117 w53 =>
 pN Tryd.prog (oCall 82 [x117, x1]) w53 fun x119 w54 =>
 pN Tryd.prog (oBin .geq 3 (.tmp 120) (.const (.int .i64 0)) x119 (.int .i64 0)) w54 fun x121 w55 =>
 pIf x121
 (pN Tryd.prog (oBin .add 3 (.tmp 122) (.tmp 123) x119 x110) w55 fun x124 w56 =>
 Q x124 w56)
 (Q (.int .i64 (-1)) w55))
 ((L20 x110 x108 w52 ∧ m20 x110 x108 w52 < m20 i8l20 fails10l20 w24))))
 (Q (.int .i64 (-1)) w25)))
 (pN Tryd.prog (oIdx 22 x1 (.int .i64 0)) w13 fun x126 w57 =>
 pN Tryd.prog (oLoad 5 x126) w57 fun x127 w58 =>
 pN Tryd.prog (oIdx 22 x1 (.int .i64 1)) w58 fun x129 w59 =>
 pN Tryd.prog (oLoad 5 x129) w59 fun x130 w60 =>
 pN Tryd.prog (oBi .len #[22] 3 [false] [x0]) w60 fun x132 w61 =>
 pN Tryd.prog (oBin .sub 3 (.tmp 132) (.tmp 133) x132 x21) w61 fun x134 w62 =>
 pN Tryd.prog (oBin .add 3 (.tmp 134) (.const (.int .i64 1)) x134 (.int .i64 1)) w62 fun x135 w63 =>
 ∃ I55 : World → Prop,
 (∃ (L41 : Value → Value → World → Prop) (m41 : Value → Value → World → Nat),
 L41 (.int .i64 0) (.int .i64 0) w63 ∧
 ∀ (_k41 : Env) (i15l41 : Value) (fails16l41 : Value) (w64 : World), L41 i15l41 fails16l41 w64 →
 pN Tryd.prog (oBin .lss 3 (.tmp 136) (.tmp 137) i15l41 x135) w64 fun x138 w65 =>
 pIf x138
 (∃ I46 : Value → World → Prop,
 (pN Tryd.prog (oIdx 22 x0 i15l41) w65 fun x141 w66 =>
 pN Tryd.prog (oLoad 5 x141) w66 fun x142 w67 =>
 pN Tryd.prog (oBin .neq 5 (.tmp 142) (.tmp 143) x142 x127) w67 fun x144 w68 =>
 pIf x144
 (pN Tryd.prog (oBin .add 3 (.tmp 146) (.const (.int .i64 1)) i15l41 (.int .i64 1)) w68 fun x147 w69 =>
 pN Tryd.prog (oSl 22 x0 (some x147) (some x135) none) w69 fun x149 w70 =>
 pN Tryd.prog (oCall 81 [x149, x127]) w70 fun x151 w71 =>
 pN Tryd.prog (oBin .lss 3 (.tmp 152) (.const (.int .i64 0)) x151 (.int .i64 0)) w71 fun x153 w72 =>
 pIf x153
 (I55 w72)
 (pN Tryd.prog (oBin .add 3 (.tmp 155) (.const (.int .i64 1)) x151 (.int .i64 1)) w72 fun x156 w73 =>
 pN Tryd.prog (oBin .add 3 (.tmp 154) (.tmp 156) i15l41 x156) w73 fun x157 w74 =>
 I46 x157 w74))
 (I46 i15l41 w68)) ∧
 ∀ (_j46 : Env) (i15c46 : Value) (w75 : World), I46 i15c46 w75 →
 pN Tryd.prog (oBin .add 3 (.tmp 159) (.const (.int .i64 1)) i15c46 (.int .i64 1)) w75 fun x160 w76 =>
 pN Tryd.prog (oIdx 22 x0 x160) w76 fun x161 w77 =>
 pN Tryd.prog (oLoad 5 x161) w77 fun x162 w78 =>
 pN Tryd.prog (oBin .eql 5 (.tmp 162) (.tmp 163) x162 x130) w78 fun x164 w79 =>
 pGd (gB x164 true) (pN Tryd.prog (oMv x0) w79) w79 fun x166 w80 =>
 pGd (gB x164 true) (pN Tryd.prog (oMv i15c46) w80) w80 fun x167 w81 =>
 pGd (gB x164 true) (pN Tryd.prog (oMv i15c46) w81) w81 fun x168 w82 =>
 pGd (gB x164 true) (pN Tryd.prog (oMv x21) w82) w82 fun x169 w83 =>
 pGd (gB x164 true) (pN Tryd.prog (oBin .add 3 (.tmp 168) (.tmp 169) x168 x169) w83) w83 fun x170 w84 =>
 pGd (gB x164 true) (pN Tryd.prog (oSl 22 x166 (some x167) (some x170) none) w84) w84 fun x171 w85 =>
 pGd (gB x164 true) (pN Tryd.prog (oMv x1) w85) w85 fun x172 w86 =>
 pGd (gB x164 true) (pN Tryd.prog (oCall 29 [x171, x172]) w86) w86 fun x173 w87 =>
 pN Tryd.prog (oPick x164 x173 (.bool false)) w87 fun x174 w88 =>
 pIf x174
 (Q i15c46 w88)
 (pN Tryd.prog (oBin .add 3 (.tmp 176) (.const (.int .i64 1)) i15c46 (.int .i64 1)) w88 fun x177 w89 =>
 pN Tryd.prog (oBin .add 3 (.tmp 178) (.const (.int .i64 1)) fails16l41 (.int .i64 1)) w89 fun x179 w90 =>
 pN Tryd.prog (oBin .shr 3 (.tmp 181) (.const (.int .u64 4)) x177 (.int .u64 4)) w90 fun x182 w91 =>
 pN Tryd.prog (oBin .add 3 (.const (.int .i64 4)) (.tmp 182) (.int .i64 4) x182) w91 fun x183 w92 =>
 pN Tryd.prog (oBin .geq 3 (.tmp 180) (.tmp 183) x179 x183) w92 fun x184 w93 =>
 pGd (gB x184 true) (pN Tryd.prog (oMv x177) w93) w93 fun x186 w94 =>
 pGd (gB x184 true) (pN Tryd.prog (oMv x135) w94) w94 fun x187 w95 =>
 pGd (gB x184 true) (pN Tryd.prog (oBin .lss 3 (.tmp 186) (.tmp 187) x186 x187) w95) w95 fun x188 w96 =>
 pN Tryd.prog (oPick x184 x188 (.bool false)) w96 fun x189 w97 =>
 pIf x189
 (pN Tryd.prog (oSl 22 x0 (some x177) none none) w97 fun x192 w98 =>
 pN Tryd.prog (oCall 84 [x192, x1]) w98 fun x194 w99 =>
 pN Tryd.prog (oBin .lss 3 (.tmp 195) (.const (.int .i64 0)) x194 (.int .i64 0)) w99 fun x196 w100 =>
 pIf x196
 (Q (.int .i64 (-1)) w100)
 (pN Tryd.prog (oBin .add 3 (.tmp 197) (.tmp 198) x177 x194) w100 fun x199 w101 =>
 Q x199 w101))
 ((L41 x177 x179 w97 ∧ m41 x177 x179 w97 < m41 i15l41 fails16l41 w64))))
 (I55 w65)) ∧
 ∀ (_j55 : Env) (w102 : World), I55 w102 →
 Q (.int .i64 (-1)) w102)))))
noncomputable def bytes_Index.c : Code := match Tryd.f77.body with | some c => c | none => .skip
theorem bytes_Index.eq [Pan] (x0 : Value) (x1 : Value) (w : World) (Q : Value → World → Prop) : cw Tryd.prog bytes_Index.H bytes_Index.c (endQ Tryd.prog Tryd.f77.results.toList Q) (argsE [x0, x1]) w = bytes_Index.F x0 x1 w Q := by kernel_rfl
theorem bytes_Index.calls [Pan] {x0 : Value} {x1 : Value} {w : World} {Q : Value → World → Prop} (h : bytes_Index.F x0 x1 w Q) : Calls Tryd.prog 77 #[x0, x1] w (retP Q) :=
  calls_of_cw (H := bytes_Index.H) (c := bytes_Index.c) (args := [x0, x1]) mixed Tryd.func77 (by kernel_rfl) (by kernel_rfl) (Nat.le_of_ble_eq_true (by kernel_rfl)) ((bytes_Index.eq x0 x1 w Q).mpr h)

/-! bytes_asciiSet_contains: (*bytes.asciiSet).contains; temporaries: 0:as 1:c 2:as 3:c -/
def bytes_asciiSet_contains.H : Hints := { cut := fun  | _ => none, loop := fun  | _ => ([], 0), order := fun  | _ => [] }
def bytes_asciiSet_contains.F [Pan] (x0 : Value) (x1 : Value) (w : World) (Q : Value → World → Prop) : Prop :=
 pN Tryd.prog (oNil x0) w fun x7 w1 =>
 pN Tryd.prog (oIdx 100 x7 x1) w1 fun x8 w2 =>
 pN Tryd.prog (oLoad 4 x8) w2 fun x9 w3 =>
 Q x9 w3
noncomputable def bytes_asciiSet_contains.c : Code := match Tryd.f78.body with | some c => c | none => .skip
theorem bytes_asciiSet_contains.eq [Pan] (x0 : Value) (x1 : Value) (w : World) (Q : Value → World → Prop) : cw Tryd.prog bytes_asciiSet_contains.H bytes_asciiSet_contains.c (endQ Tryd.prog Tryd.f78.results.toList Q) (argsE [x0, x1]) w = bytes_asciiSet_contains.F x0 x1 w Q := by kernel_rfl
theorem bytes_asciiSet_contains.calls [Pan] {x0 : Value} {x1 : Value} {w : World} {Q : Value → World → Prop} (h : bytes_asciiSet_contains.F x0 x1 w Q) : Calls Tryd.prog 78 #[x0, x1] w (retP Q) :=
  calls_of_cw (H := bytes_asciiSet_contains.H) (c := bytes_asciiSet_contains.c) (args := [x0, x1]) mixed Tryd.func78 (by kernel_rfl) (by kernel_rfl) (Nat.le_of_ble_eq_true (by kernel_rfl)) ((bytes_asciiSet_contains.eq x0 x1 w Q).mpr h)

/-! bytes_containsRune: bytes.containsRune; temporaries: 0:s 1:r 2:s 3:r 5:_ 6:c -/
def bytes_containsRune.H : Hints := { cut := fun  | _ => none, loop := fun | 2 => ([], 32336) | _ => ([], 0), order := fun  | _ => [] }
def bytes_containsRune.F [Pan] (x0 : Value) (x1 : Value) (w : World) (Q : Value → World → Prop) : Prop :=
 pN Tryd.prog (oRange 9 x0) w fun x8 w1 =>
 ∃ (L2 : World → Prop) (m2 : World → Nat),
 L2 w1 ∧
 ∀ (_k2 : Env) (w2 : World), L2 w2 →
 pN Tryd.prog (oNext x8 true 0) w2 fun x9 w3 =>
 pN Tryd.prog (oExt x9 0) w3 fun x10 w4 =>
 pIf x10
 (pN Tryd.prog (oExt x9 2) w4 fun x11 w5 =>
 pN Tryd.prog (oBin .eql 21 (.tmp 12) (.tmp 13) x11 x1) w5 fun x14 w6 =>
 pIf x14
 (Q (.bool true) w6)
 ((L2 w6 ∧ m2 w6 < m2 w2)))
 (Q (.bool false) w4)
noncomputable def bytes_containsRune.c : Code := match Tryd.f80.body with | some c => c | none => .skip
theorem bytes_containsRune.eq [Pan] (x0 : Value) (x1 : Value) (w : World) (Q : Value → World → Prop) : cw Tryd.prog bytes_containsRune.H bytes_containsRune.c (endQ Tryd.prog Tryd.f80.results.toList Q) (argsE [x0, x1]) w = bytes_containsRune.F x0 x1 w Q := by kernel_rfl
theorem bytes_containsRune.calls [Pan] {x0 : Value} {x1 : Value} {w : World} {Q : Value → World → Prop} (h : bytes_containsRune.F x0 x1 w Q) : Calls Tryd.prog 80 #[x0, x1] w (retP Q) :=
  calls_of_cw (H := bytes_containsRune.H) (c := bytes_containsRune.c) (args := [x0, x1]) mixed Tryd.func80 (by kernel_rfl) (by kernel_rfl) (Nat.le_of_ble_eq_true (by kernel_rfl)) ((bytes_containsRune.eq x0 x1 w Q).mpr h)

/-! bytes_IndexByte: bytes.IndexByte; temporaries: 0:b 1:c 2:b 3:c -/
def bytes_IndexByte.H : Hints := { cut := fun  | _ => none, loop := fun  | _ => ([], 0), order := fun  | _ => [] }
def bytes_IndexByte.F [Pan] (x0 : Value) (x1 : Value) (w : World) (Q : Value → World → Prop) : Prop :=
 pN Tryd.prog (oCall 86 [x0, x1]) w fun x7 w1 =>
 Q x7 w1
noncomputable def bytes_IndexByte.c : Code := match Tryd.f81.body with | some c => c | none => .skip
theorem bytes_IndexByte.eq [Pan] (x0 : Value) (x1 : Value) (w : World) (Q : Value → World → Prop) : cw Tryd.prog bytes_IndexByte.H bytes_IndexByte.c (endQ Tryd.prog Tryd.f81.results.toList Q) (argsE [x0, x1]) w = bytes_IndexByte.F x0 x1 w Q := by kernel_rfl
theorem bytes_IndexByte.calls [Pan] {x0 : Value} {x1 : Value} {w : World} {Q : Value → World → Prop} (h : bytes_IndexByte.F x0 x1 w Q) : Calls Tryd.prog 81 #[x0, x1] w (retP Q) :=
  calls_of_cw (H := bytes_IndexByte.H) (c := bytes_IndexByte.c) (args := [x0, x1]) mixed Tryd.func81 (by kernel_rfl) (by kernel_rfl) (Nat.le_of_ble_eq_true (by kernel_rfl)) ((bytes_IndexByte.eq x0 x1 w Q).mpr h)

end Go.Proofs.YteeepkimnpabiaaDoor
