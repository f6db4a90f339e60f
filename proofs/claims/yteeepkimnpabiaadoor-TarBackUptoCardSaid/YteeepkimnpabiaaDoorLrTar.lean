/-
  Printed by a program of mine (lift.py): each function of the seat as a plain proposition over values and worlds; that the program meets it.
-/
import Derived.Test.YteeepkimnpabiaaDoorRows
import Derived.Test.YteeepkimnpabiaaDoorFacts
import Derived.Test.YteeepkimnpabiaaDoorRndC
namespace Go.Proofs.YteeepkimnpabiaaDoor
open Go
set_option linter.unusedSimpArgs false
set_option linter.unnecessarySimpa false
set_option linter.unusedSectionVars false
set_option linter.unusedVariables false
set_option maxRecDepth 100000

/-! tar_ReadR: pith/tar.Read; temporaries: 0:b 1:b 4:l 5:x 6:err -/
def tar_ReadR.H : Hints := { cut := fun  | _ => none, loop := fun  | _ => ([], 0), order := fun  | _ => [] }
def tar_ReadR.F (x0 : Value) (w : World) (Q : Value → World → Prop) : Prop :=
 pN Tryd.prog (oAlloc 34) w fun x2 w1 =>
 pN Tryd.prog (oAlloc 25) w1 fun x3 w2 =>
 pN Tryd.prog (oAlloc 34) w2 fun x4 w3 =>
 pN Tryd.prog (oCall 23 [x0]) w3 fun x8 w4 =>
 rfW Tryd.prog none [] w4 x8 2 (fun l1 rc1 as1 w5 K1 =>
 pN Tryd.prog (oAlloc 24) w5 fun x5 w8 =>
 pN Tryd.prog (oStore 24 x5 (nthV as1 0)) w8 fun _ w9 =>
 bgW l1 rc1 w9 fun w6 =>
 pN Tryd.prog (oBin .neq 25 (.tmp 11) (.const (.int .i64 0)) (nthV as1 1) (.int .i64 0)) w6 fun x12 w10 =>
 pIf x12
 (pN Tryd.prog (oStore 34 x2 (.slice none 0 0)) w10 fun _ w11 =>
 pN Tryd.prog (oStore 25 x3 (nthV as1 1)) w11 fun _ w12 =>
 enW l1 rc1 (some .ret) K1 w12)
 (pN Tryd.prog (oLoad 34 x4) w10 fun x14 w13 =>
 pN Tryd.prog (oLoad 24 x5) w13 fun x15 w14 =>
 pN Tryd.prog (oBs 34 1 [(0, x15)]) w14 fun x16 w15 =>
 pN Tryd.prog (oBi .append #[34, 34] 34 [false, false] [x14, x16]) w15 fun x17 w16 =>
 pN Tryd.prog (oStore 34 x4 x17) w16 fun _ w17 =>
 enW l1 rc1 none K1 w17))
 (fun mr1 w7 =>
 pN Tryd.prog (oLoad 34 x4) w7 fun x18 w18 =>
 pN Tryd.prog (oStore 34 x2 x18) w18 fun _ w19 =>
 pN Tryd.prog (oStore 25 x3 (.int .i64 0)) w19 fun _ w20 =>
 mkW mr1 w20 fun w21 =>
 pL Tryd.prog (oRes 34 x2) w21 fun r2 =>
 pL Tryd.prog (oRes 25 x3) w21 fun r3 =>
 Q (.tuple #[r2, r3]) w21)
 (fun mr1 w7 =>
 mkW mr1 w7 fun w22 =>
 pL Tryd.prog (oRes 34 x2) w22 fun r2 =>
 pL Tryd.prog (oRes 25 x3) w22 fun r3 =>
 Q (.tuple #[r2, r3]) w22)
 []
noncomputable def tar_ReadR.c : Code := match Tryd.f19.body with | some c => c | none => .skip
theorem tar_ReadR.eq (x0 : Value) (w : World) (Q : Value → World → Prop) : cwR Tryd.prog tar_ReadR.H tar_ReadR.c none (endR Tryd.prog Tryd.f19.results.toList Q) (argsE [x0]) [] w = tar_ReadR.F x0 w Q := by kernel_rfl
theorem tar_ReadR.calls {x0 : Value} {w : World} {Q : Value → World → Prop} (h : tar_ReadR.F x0 w Q) : Calls Tryd.prog 19 #[x0] w (@retP Pan.no Q) :=
  calls_of_cwR (H := tar_ReadR.H) (c := tar_ReadR.c) (args := [x0]) mixed Tryd.func19 (by kernel_rfl) (by kernel_rfl) (Nat.le_of_ble_eq_true (by kernel_rfl)) ((tar_ReadR.eq x0 w Q).mpr h)

/-! tar_Items_c1R: pith/tar.Items$1; temporaries: 0:yield 2:yield 3:left 4:x 5:n 6:err -/
def tar_Items_c1R.H : Hints := { cut := fun  | _ => none, loop := fun | 1 => ([3], 34359738232) | _ => ([], 0), order := fun  | _ => [] }
def tar_Items_c1R.F (x0 : Value) (x1 : Value) (w : World) (Q : Value → World → Prop) : Prop :=
 pN Tryd.prog (oLoad 22 x1) w fun x7 w1 =>
 ∃ (L1 : List Nat → Value → World → Prop) (m1 : Value → World → Nat),
 L1 [] x7 w1 ∧
 ∀ (_k1 : Env) (left3l1 : Value) (ms1 : List Nat) (w2 : World), L1 ms1 left3l1 w2 →
 pN Tryd.prog (oBi .len #[22] 3 [false] [left3l1]) w2 fun x9 w3 =>
 pN Tryd.prog (oBin .geq 3 (.tmp 9) (.const (.int .i64 512)) x9 (.int .i64 512)) w3 fun x10 w4 =>
 pGd (gB x10 true) (pN Tryd.prog (oMv left3l1) w4) w4 fun x12 w5 =>
 pGd (gB x10 true) (pN Tryd.prog (oSl 22 x12 none (some (.int .i64 512)) none) w5) w5 fun x13 w6 =>
 pGd (gB x10 true) (pN Tryd.prog (oCall 32 [x13]) w6) w6 fun x14 w7 =>
 pGd (gB x10 true) (pN Tryd.prog (oUn .not x14) w7) w7 fun x15 w8 =>
 pN Tryd.prog (oPick x10 x15 (.bool false)) w8 fun x16 w9 =>
 pIf x16
 (pN Tryd.prog (oCall 11 [left3l1]) w9 fun x19 w10 =>
 pN Tryd.prog (oExt x19 0) w10 fun x20 w11 =>
 pN Tryd.prog (oExt x19 1) w11 fun x21 w12 =>
 pN Tryd.prog (oExt x19 2) w12 fun x22 w13 =>
 pN Tryd.prog (oAlloc 24) w13 fun x4 w14 =>
 pN Tryd.prog (oStore 24 x4 x20) w14 fun _ w15 =>
 pN Tryd.prog (oLoad 24 x4) w15 fun x24 w16 =>
 pY Tryd.prog (oCallV x0 [x24, x22]) w16 fun x26 w17 =>
 pN Tryd.prog (oUn .not x26) w17 fun x27 w18 =>
 pGd (gB x27 false) (pN Tryd.prog (oMv x22) w18) w18 fun x29 w19 =>
 pGd (gB x27 false) (pN Tryd.prog (oBin .neq 25 (.tmp 29) (.const (.int .i64 0)) x29 (.int .i64 0)) w19) w19 fun x30 w20 =>
 pN Tryd.prog (oPick x27 (.bool true) x30) w20 fun x31 w21 =>
 pIf x31
 (mkW ms1 w21 fun w22 =>
 Q (.tuple #[]) w22)
 (pN Tryd.prog (oSl 22 left3l1 (some x21) none none) w21 fun x34 w23 =>
 (L1 ms1 x34 w23 ∧ m1 x34 w23 < m1 left3l1 w2)))
 (pN Tryd.prog (oBi .len #[22] 3 [false] [left3l1]) w9 fun x37 w24 =>
 pN Tryd.prog (oBin .lss 3 (.tmp 37) (.const (.int .i64 1024)) x37 (.int .i64 1024)) w24 fun x38 w25 =>
 pIf x38
 (pN Tryd.prog (oBuild 24 []) w25 fun x40 w26 =>
 pY Tryd.prog (oCallV x0 [x40, (.int .i64 1)]) w26 fun _ w27 =>
 mkW ms1 w27 fun w28 =>
 Q (.tuple #[]) w28)
 (pN Tryd.prog (oBi .len #[22] 3 [false] [left3l1]) w25 fun x44 w29 =>
 pN Tryd.prog (oBin .gtr 3 (.tmp 44) (.const (.int .i64 1024)) x44 (.int .i64 1024)) w29 fun x45 w30 =>
 pGd (gB x45 false) (pN Tryd.prog (oMv left3l1) w30) w30 fun x47 w31 =>
 pGd (gB x45 false) (pN Tryd.prog (oCall 32 [x47]) w31) w31 fun x48 w32 =>
 pGd (gB x45 false) (pN Tryd.prog (oUn .not x48) w32) w32 fun x49 w33 =>
 pN Tryd.prog (oPick x45 (.bool true) x49) w33 fun x50 w34 =>
 pIf x50
 (pN Tryd.prog (oBuild 24 []) w34 fun x52 w35 =>
 pY Tryd.prog (oCallV x0 [x52, (.int .i64 2)]) w35 fun _ w36 =>
 mkW ms1 w36 fun w37 =>
 Q (.tuple #[]) w37)
 (mkW ms1 w34 fun w38 =>
 Q (.tuple #[]) w38)))
noncomputable def tar_Items_c1R.c : Code := match Tryd.f42.body with | some c => c | none => .skip
theorem tar_Items_c1R.eq (x0 : Value) (x1 : Value) (w : World) (Q : Value → World → Prop) : cwR Tryd.prog tar_Items_c1R.H tar_Items_c1R.c none (endR Tryd.prog Tryd.f42.results.toList Q) (argsE [x0, x1]) [] w = tar_Items_c1R.F x0 x1 w Q := by kernel_rfl
theorem tar_Items_c1R.calls {x0 : Value} {x1 : Value} {w : World} {Q : Value → World → Prop} (h : tar_Items_c1R.F x0 x1 w Q) : Calls Tryd.prog 42 #[x0, x1] w (@retP Pan.no Q) :=
  calls_of_cwR (H := tar_Items_c1R.H) (c := tar_Items_c1R.c) (args := [x0, x1]) mixed Tryd.func42 (by kernel_rfl) (by kernel_rfl) (Nat.le_of_ble_eq_true (by kernel_rfl)) ((tar_Items_c1R.eq x0 x1 w Q).mpr h)

end Go.Proofs.YteeepkimnpabiaaDoor
