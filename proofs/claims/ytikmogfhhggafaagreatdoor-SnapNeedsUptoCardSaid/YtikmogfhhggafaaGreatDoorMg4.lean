/-
  Texts of one proof, one behind the other: LfSlices, DepW, LfState, LfChain, Chn, LfCdc, Rnd, RndC, LrCdc, RndS, CdcW, LfBytes, LfStrings, LfStringslite, TarL, DepV, LfSha.
-/
import Derived.Test.YtikmogfhhggafaaGreatDoorRows
import Derived.OrdersIn
import Derived.TacticsIn
import Derived.RangeFuncRecord
import Derived.Lib.IndexLaws
import Derived.Test.YtikmogfhhggafaaGreatDoorMg3
set_option linter.unusedSimpArgs false
set_option linter.unnecessarySimpa false
set_option linter.unusedSectionVars false
set_option linter.unusedVariables false

namespace Go.Proofs.YtikmogfhhggafaaGreatDoor
open Go
set_option maxRecDepth 100000

def slices_Clone___byte_byte_.F [Pan] (x0 : Value) (w : World) (Q : Value → World → Prop) : Prop :=
 pN Tryz.prog (oBin .eql 47 (.tmp 3) (.const (.slice none 0 0)) x0 (.slice none 0 0)) w fun x4 w1 =>
 pIf x4
 (Q (.slice none 0 0) w1)
 (pN Tryz.prog (oBs 47 0 []) w1 fun x5 w2 =>
 pN Tryz.prog (oBi .append #[47, 47] 47 [false, false] [x5, x0]) w2 fun x7 w3 =>
 Q x7 w3)
theorem slices_Clone___byte_byte_.calls [Pan] {x0 : Value} {w : World} {Q : Value → World → Prop} (h : slices_Clone___byte_byte_.F x0 w Q) : Calls Tryz.prog 64 #[x0] w (retP Q) := calls_lift mixed .z [x0] Tryz.func64 (by kernel_rfl) (by kernel_rfl) h

def slices_Clone___api_ID_api_ID_.F [Pan] (x0 : Value) (w : World) (Q : Value → World → Prop) : Prop :=
 pN Tryz.prog (oBin .eql 52 (.tmp 3) (.const (.slice none 0 0)) x0 (.slice none 0 0)) w fun x4 w1 =>
 pIf x4
 (Q (.slice none 0 0) w1)
 (pN Tryz.prog (oBs 52 0 []) w1 fun x5 w2 =>
 pN Tryz.prog (oBi .append #[52, 52] 52 [false, false] [x5, x0]) w2 fun x7 w3 =>
 Q x7 w3)
theorem slices_Clone___api_ID_api_ID_.calls [Pan] {x0 : Value} {w : World} {Q : Value → World → Prop} (h : slices_Clone___api_ID_api_ID_.F x0 w Q) : Calls Tryz.prog 65 #[x0] w (retP Q) := calls_lift mixed .z [x0] Tryz.func65 (by kernel_rfl) (by kernel_rfl) h

def slices_Compact___api_ID_api_ID_.H : Hints := { cut := fun | 10 => some ([3], 18014364149743624) | _ => none, loop := fun | 4 => ([3], 1152921504606846012) | 9 => ([3, 5], 18014397972611112) | _ => ([], 0), order := fun | 6 => [(0, 0), (1, 1), (2, 3), (3, 7), (4, 15), (5, 31), (6, 63), (7, 127), (8, 255), (9, 511)] | 11 => [(0, 0), (1, 1), (2, 3), (3, 7), (4, 15), (5, 31), (6, 63), (7, 127), (8, 255), (9, 511)] | _ => [] }
def slices_Compact___api_ID_api_ID_.F [Pan] (x0 : Value) (w : World) (Q : Value → World → Prop) : Prop :=
 pN Tryz.prog (oBi .len #[52] 3 [false] [x0]) w fun x7 w1 =>
 pN Tryz.prog (oBin .lss 3 (.tmp 7) (.const (.int .i64 2)) x7 (.int .i64 2)) w1 fun x8 w2 =>
 pIf x8
 (Q x0 w2)
 (∃ (L4 : Value → World → Prop) (m4 : Value → World → Nat),
 L4 (.int .i64 1) w2 ∧
 ∀ (_k4 : Env) (k3l4 : Value) (w3 : World), L4 k3l4 w3 →
 pN Tryz.prog (oBi .len #[52] 3 [false] [x0]) w3 fun x12 w4 =>
 pN Tryz.prog (oBin .lss 3 (.tmp 10) (.tmp 12) k3l4 x12) w4 fun x13 w5 =>
 pIf x13
 (pDr w5 fun w6 =>
 pA Tryz.prog (oIdx 52 x0 k3l4) fun x18 =>
 pL Tryz.prog (oLoad 58 x18) w6 fun x19 =>
 pA Tryz.prog (oBin .sub 3 (.tmp 21) (.const (.int .i64 1)) k3l4 (.int .i64 1)) fun x22 =>
 pA Tryz.prog (oIdx 52 x0 x22) fun x23 =>
 pL Tryz.prog (oLoad 58 x23) w6 fun x24 =>
 pA Tryz.prog (oBin .eql 58 (.tmp 19) (.tmp 24) x19 x24) fun x25 =>
 pIf x25
 (pN Tryz.prog (oSl 52 x0 (some k3l4) none none) w6 fun x28 w7 =>
 ∃ (L9 : Value → Value → World → Prop) (m9 : Value → Value → World → Nat),
 L9 k3l4 (.int .i64 1) w7 ∧
 ∀ (_k9 : Env) (k3l9 : Value) (k2_5l9 : Value) (w8 : World), L9 k3l9 k2_5l9 w8 →
 pN Tryz.prog (oBi .len #[52] 3 [false] [x28]) w8 fun x31 w9 =>
 pN Tryz.prog (oBin .lss 3 (.tmp 29) (.tmp 31) k2_5l9 x31) w9 fun x32 w10 =>
 pIf x32
 (∃ I10 : Value → World → Prop,
 (pDr w10 fun w11 =>
 pA Tryz.prog (oIdx 52 x28 k2_5l9) fun x37 =>
 pL Tryz.prog (oLoad 58 x37) w11 fun x38 =>
 pA Tryz.prog (oBin .sub 3 (.tmp 40) (.const (.int .i64 1)) k2_5l9 (.int .i64 1)) fun x41 =>
 pA Tryz.prog (oIdx 52 x28 x41) fun x42 =>
 pL Tryz.prog (oLoad 58 x42) w11 fun x43 =>
 pA Tryz.prog (oBin .neq 58 (.tmp 38) (.tmp 43) x38 x43) fun x44 =>
 pIf x44
 (pN Tryz.prog (oIdx 52 x28 k2_5l9) w11 fun x49 w12 =>
 pN Tryz.prog (oLoad 58 x49) w12 fun x50 w13 =>
 pN Tryz.prog (oIdx 52 x0 k3l9) w13 fun x51 w14 =>
 pN Tryz.prog (oStore 58 x51 x50) w14 fun _ w15 =>
 pN Tryz.prog (oBin .add 3 (.tmp 52) (.const (.int .i64 1)) k3l9 (.int .i64 1)) w15 fun x53 w16 =>
 I10 x53 w16)
 (I10 k3l9 w11)) ∧
 ∀ (_j10 : Env) (k3c10 : Value) (w17 : World), I10 k3c10 w17 →
 pN Tryz.prog (oBin .add 3 (.tmp 33) (.const (.int .i64 1)) k2_5l9 (.int .i64 1)) w17 fun x34 w18 =>
 (L9 k3c10 x34 w18 ∧ m9 k3c10 x34 w18 < m9 k3l9 k2_5l9 w8))
 (pN Tryz.prog (oSl 52 x0 (some k3l9) none none) w10 fun x56 w19 =>
 pN Tryz.prog (oBi .clear #[52] 0 [false] [x56]) w19 fun _ w20 =>
 pN Tryz.prog (oSl 52 x0 none (some k3l9) none) w20 fun x59 w21 =>
 Q x59 w21))
 (pN Tryz.prog (oBin .add 3 (.tmp 14) (.const (.int .i64 1)) k3l4 (.int .i64 1)) w6 fun x15 w22 =>
 (L4 x15 w22 ∧ m4 x15 w22 < m4 k3l4 w3)))
 (Q x0 w5))
theorem slices_Compact___api_ID_api_ID_.calls [Pan] {x0 : Value} {w : World} {Q : Value → World → Prop} (h : slices_Compact___api_ID_api_ID_.F x0 w Q) : Calls Tryz.prog 69 #[x0] w (retP Q) := calls_lift mixed slices_Compact___api_ID_api_ID_.H [x0] Tryz.func69 (by kernel_rfl) (by kernel_rfl) h

def slices_IndexFunc___snap_entry_snap_entry_.H : Hints := { cut := fun  | _ => none, loop := fun | 2 => ([8], 524080) | _ => ([], 0), order := fun  | _ => [] }
def slices_IndexFunc___snap_entry_snap_entry_.F [Pan] (x0 x1 : Value) (w : World) (Q : Value → World → Prop) : Prop :=
 pN Tryz.prog (oBi .len #[116] 3 [false] [x0]) w fun x7 w1 =>
 ∃ (L2 : Value → World → Prop) (m2 : Value → World → Nat),
 L2 (.int .i64 0) w1 ∧
 ∀ (_k2 : Env) (v8l2 : Value) (w2 : World), L2 v8l2 w2 →
 pN Tryz.prog (oBin .lss 3 (.tmp 8) (.tmp 7) v8l2 x7) w2 fun x9 w3 =>
 pIf x9
 (pN Tryz.prog (oIdx 116 x0 v8l2) w3 fun x14 w4 =>
 pN Tryz.prog (oLoad 118 x14) w4 fun x15 w5 =>
 pN Tryz.prog (oCallV x1 [x15]) w5 fun x16 w6 =>
 pIf x16
 (Q v8l2 w6)
 (pN Tryz.prog (oBin .add 3 (.tmp 8) (.const (.int .i64 1)) v8l2 (.int .i64 1)) w6 fun x18 w7 =>
 (L2 x18 w7 ∧ m2 x18 w7 < m2 v8l2 w2)))
 (Q (.int .i64 (-1)) w3)
theorem slices_IndexFunc___snap_entry_snap_entry_.calls [Pan] {x0 x1 : Value} {w : World} {Q : Value → World → Prop} (h : slices_IndexFunc___snap_entry_snap_entry_.F x0 x1 w Q) : Calls Tryz.prog 72 #[x0, x1] w (retP Q) := calls_lift mixed slices_IndexFunc___snap_entry_snap_entry_.H [x0, x1] Tryz.func72 (by kernel_rfl) (by kernel_rfl) h

def slices_Clone___api_Item_api_Item_.F [Pan] (x0 : Value) (w : World) (Q : Value → World → Prop) : Prop :=
 pN Tryz.prog (oBin .eql 30 (.tmp 3) (.const (.slice none 0 0)) x0 (.slice none 0 0)) w fun x4 w1 =>
 pIf x4
 (Q (.slice none 0 0) w1)
 (pN Tryz.prog (oBs 30 0 []) w1 fun x5 w2 =>
 pN Tryz.prog (oBi .append #[30, 30] 30 [false, false] [x5, x0]) w2 fun x7 w3 =>
 Q x7 w3)
theorem slices_Clone___api_Item_api_Item_.calls [Pan] {x0 : Value} {w : World} {Q : Value → World → Prop} (h : slices_Clone___api_Item_api_Item_.F x0 w Q) : Calls Tryz.prog 95 #[x0] w (retP Q) := calls_lift mixed .z [x0] Tryz.func95 (by kernel_rfl) (by kernel_rfl) h

def slices_SortStableFunc___api_Item_api_Item_.F [Pan] (x0 x1 : Value) (w : World) (Q : Value → World → Prop) : Prop :=
 pN Tryz.prog (oBi .len #[30] 3 [false] [x0]) w fun x6 w1 =>
 pN Tryz.prog (oCall 127 [x0, x6, x1]) w1 fun _ w2 =>
 Q (.tuple #[]) w2
theorem slices_SortStableFunc___api_Item_api_Item_.calls [Pan] {x0 x1 : Value} {w : World} {Q : Value → World → Prop} (h : slices_SortStableFunc___api_Item_api_Item_.F x0 x1 w Q) : Calls Tryz.prog 96 #[x0, x1] w (retP Q) := calls_lift mixed .z [x0, x1] Tryz.func96 (by kernel_rfl) (by kernel_rfl) h

def slices_stableCmpFunc_api_Item_.H : Hints := { cut := fun | 16 => some ([], 2305280059260273152) | _ => none, loop := fun | 2 => ([7, 8], 8386944) | 7 => ([6], 9223372036586341312) | 9 => ([7, 8], 562941363487104) | _ => ([], 0), order := fun  | _ => [] }
def slices_stableCmpFunc_api_Item_.F [Pan] (x0 x1 x2 : Value) (w : World) (Q : Value → World → Prop) : Prop :=
 ∃ (L2 : Value → Value → World → Prop) (m2 : Value → Value → World → Nat),
 L2 (.int .i64 0) (.int .i64 20) w ∧
 ∀ (_k2 : Env) (a7l2 : Value) (b8l2 : Value) (w1 : World), L2 a7l2 b8l2 w1 →
 pN Tryz.prog (oBin .leq 3 (.tmp 11) (.tmp 12) b8l2 x1) w1 fun x13 w2 =>
 pIf x13
 (pN Tryz.prog (oCall 176 [x0, a7l2, b8l2, x2]) w2 fun _ w3 =>
 pN Tryz.prog (oBin .add 3 (.tmp 20) (.tmp 21) b8l2 (.int .i64 20)) w3 fun x22 w4 =>
 (L2 b8l2 x22 w4 ∧ m2 b8l2 x22 w4 < m2 a7l2 b8l2 w1))
 (pN Tryz.prog (oCall 176 [x0, a7l2, x1, x2]) w2 fun _ w5 =>
 ∃ (L7 : Value → World → Prop) (m7 : Value → World → Nat),
 L7 (.int .i64 20) w5 ∧
 ∀ (_k7 : Env) (blockSize6l7 : Value) (w6 : World), L7 blockSize6l7 w6 →
 pN Tryz.prog (oBin .lss 3 (.tmp 28) (.tmp 29) blockSize6l7 x1) w6 fun x30 w7 =>
 pIf x30
 (pN Tryz.prog (oBin .mul 3 (.const (.int .i64 2)) (.tmp 31) (.int .i64 2) blockSize6l7) w7 fun x32 w8 =>
 ∃ (L9 : Value → Value → World → Prop) (m9 : Value → Value → World → Nat),
 L9 (.int .i64 0) x32 w8 ∧
 ∀ (_k9 : Env) (a7l9 : Value) (b8l9 : Value) (w9 : World), L9 a7l9 b8l9 w9 →
 pN Tryz.prog (oBin .leq 3 (.tmp 33) (.tmp 34) b8l9 x1) w9 fun x35 w10 =>
 pIf x35
 (pN Tryz.prog (oBin .add 3 (.tmp 38) (.tmp 39) a7l9 blockSize6l7) w10 fun x40 w11 =>
 pN Tryz.prog (oCall 177 [x0, a7l9, x40, b8l9, x2]) w11 fun _ w12 =>
 pN Tryz.prog (oBin .mul 3 (.const (.int .i64 2)) (.tmp 46) (.int .i64 2) blockSize6l7) w12 fun x47 w13 =>
 pN Tryz.prog (oBin .add 3 (.tmp 45) (.tmp 47) b8l9 x47) w13 fun x48 w14 =>
 (L9 b8l9 x48 w14 ∧ m9 b8l9 x48 w14 < m9 a7l9 b8l9 w9))
 (∃ I16 : World → Prop,
 (pN Tryz.prog (oBin .add 3 (.tmp 49) (.tmp 50) a7l9 blockSize6l7) w10 fun x51 w15 =>
 pN Tryz.prog (oBin .lss 3 (.tmp 52) (.tmp 53) x51 x1) w15 fun x54 w16 =>
 pIf x54
 (pN Tryz.prog (oCall 177 [x0, a7l9, x51, x1, x2]) w16 fun _ w17 =>
 I16 w17)
 (I16 w16)) ∧
 ∀ (_j16 : Env) (w18 : World), I16 w18 →
 pN Tryz.prog (oBin .mul 3 (.tmp 61) (.const (.int .i64 2)) blockSize6l7 (.int .i64 2)) w18 fun x62 w19 =>
 (L7 x62 w19 ∧ m7 x62 w19 < m7 blockSize6l7 w6)))
 (Q (.tuple #[]) w7))
theorem slices_stableCmpFunc_api_Item_.calls [Pan] {x0 x1 x2 : Value} {w : World} {Q : Value → World → Prop} (h : slices_stableCmpFunc_api_Item_.F x0 x1 x2 w Q) : Calls Tryz.prog 127 #[x0, x1, x2] w (retP Q) := calls_lift mixed slices_stableCmpFunc_api_Item_.H [x0, x1, x2] Tryz.func127 (by kernel_rfl) (by kernel_rfl) h

def slices_insertionSortCmpFunc_api_Item_.H : Hints := { cut := fun  | _ => none, loop := fun | 1 => ([8], 9007199254737664) | 4 => ([9], 9007199254479360) | _ => ([], 0), order := fun | 4 => [(0, 0), (1, 1), (2, 3), (3, 7), (4, 15), (5, 31), (6, 63), (7, 127), (8, 255), (9, 511), (10, 1023), (11, 2047), (12, 4095), (13, 8191), (14, 16383), (15, 32767), (16, 65535)] | 6 => [(0, 0), (1, 1), (2, 3), (3, 7), (4, 15), (5, 31), (6, 63), (7, 127), (8, 255), (9, 511), (10, 1023), (11, 2047), (12, 4095), (13, 8191), (14, 16383), (15, 32767), (16, 65535), (17, 131071)] | _ => [] }
def slices_insertionSortCmpFunc_api_Item_.F [Pan] (x0 x1 x2 x3 : Value) (w : World) (Q : Value → World → Prop) : Prop :=
 pN Tryz.prog (oBin .add 3 (.tmp 10) (.const (.int .i64 1)) x1 (.int .i64 1)) w fun x11 w1 =>
 ∃ (L1 : Value → World → Prop) (m1 : Value → World → Nat),
 L1 x11 w1 ∧
 ∀ (_k1 : Env) (i8l1 : Value) (w2 : World), L1 i8l1 w2 →
 pN Tryz.prog (oBin .lss 3 (.tmp 12) (.tmp 13) i8l1 x2) w2 fun x14 w3 =>
 pIf x14
 (∃ (L4 : Value → World → Prop) (m4 : Value → World → Nat),
 L4 i8l1 w3 ∧
 ∀ (_k4 : Env) (j9l4 : Value) (w4 : World), L4 j9l4 w4 →
 pDr w4 fun w5 =>
 pA Tryz.prog (oBin .gtr 3 (.tmp 18) (.tmp 19) j9l4 x1) fun x20 =>
 gA (gB x20 true) (pA Tryz.prog (oMv x3)) fun x22 =>
 gA (gB x20 true) (pA Tryz.prog (oMv x0)) fun x23 =>
 gA (gB x20 true) (pA Tryz.prog (oMv j9l4)) fun x24 =>
 gA (gB x20 true) (pA Tryz.prog (oIdx 30 x23 x24)) fun x25 =>
 gA (gB x20 true) (pL Tryz.prog (oLoad 49 x25) w5) fun x26 =>
 gA (gB x20 true) (pA Tryz.prog (oMv x0)) fun x27 =>
 gA (gB x20 true) (pA Tryz.prog (oMv j9l4)) fun x28 =>
 gA (gB x20 true) (pA Tryz.prog (oBin .sub 3 (.tmp 28) (.const (.int .i64 1)) x28 (.int .i64 1))) fun x29 =>
 gA (gB x20 true) (pA Tryz.prog (oIdx 30 x27 x29)) fun x30 =>
 gA (gB x20 true) (pL Tryz.prog (oLoad 49 x30) w5) fun x31 =>
 pGd (gB x20 true) (pN Tryz.prog (oCallV x22 [x26, x31]) w5) w5 fun x32 w6 =>
 (True) ∧ (gA (gB x20 true) (pA Tryz.prog (oBin .lss 3 (.tmp 32) (.const (.int .i64 0)) x32 (.int .i64 0))) fun x33 =>
 pA Tryz.prog (oPick x20 x33 (.bool false)) fun x34 =>
 pIf x34
 (pDr w6 fun w7 =>
 pA Tryz.prog (oBin .sub 3 (.tmp 40) (.const (.int .i64 1)) j9l4 (.int .i64 1)) fun x41 =>
 pA Tryz.prog (oBin .sub 3 (.tmp 43) (.const (.int .i64 1)) j9l4 (.int .i64 1)) fun x44 =>
 pA Tryz.prog (oIdx 30 x0 x44) fun x45 =>
 pL Tryz.prog (oLoad 49 x45) w7 fun x46 =>
 pA Tryz.prog (oIdx 30 x0 j9l4) fun x49 =>
 pL Tryz.prog (oLoad 49 x49) w7 fun x50 =>
 pA Tryz.prog (oIdx 30 x0 j9l4) fun x51 =>
 pN Tryz.prog (oStore 49 x51 x46) w7 fun _ w8 =>
 (True) ∧ (pA Tryz.prog (oIdx 30 x0 x41) fun x52 =>
 pN Tryz.prog (oStore 49 x52 x50) w8 fun _ w9 =>
 (True) ∧ (pN Tryz.prog (oBin .sub 3 (.tmp 35) (.const (.int .i64 1)) j9l4 (.int .i64 1)) w9 fun x36 w10 =>
 (L4 x36 w10 ∧ m4 x36 w10 < m4 j9l4 w4))))
 (pN Tryz.prog (oBin .add 3 (.tmp 15) (.const (.int .i64 1)) i8l1 (.int .i64 1)) w6 fun x16 w11 =>
 (L1 x16 w11 ∧ m1 x16 w11 < m1 i8l1 w2))))
 (Q (.tuple #[]) w3)
theorem slices_insertionSortCmpFunc_api_Item_.calls [Pan] {x0 x1 x2 x3 : Value} {w : World} {Q : Value → World → Prop} (h : slices_insertionSortCmpFunc_api_Item_.F x0 x1 x2 x3 w Q) : Calls Tryz.prog 176 #[x0, x1, x2, x3] w (retP Q) := calls_lift mixed slices_insertionSortCmpFunc_api_Item_.H [x0, x1, x2, x3] Tryz.func176 (by kernel_rfl) (by kernel_rfl) h

def slices_symMergeCmpFunc_api_Item_.H : Hints := { cut := fun | 32 => some ([20, 21], 178057512444517944145699250583176761402458112) | 41 => some ([], 6276718611501464291621199836450878838806450759683488612352) | 43 => some ([], 102837757730839990953921738120411198895004889246654277424775168) | _ => none, loop := fun | 3 => ([10, 11], 18014396362005504) | 9 => ([13], 151115691423031627882496) | 15 => ([14, 15], 162259267157806806474544612753408) | 21 => ([17], 680564409323323268500022431707515977728) | 33 => ([20, 21], 47890484938435180470718404069304177263338029388398592) | _ => ([], 0), order := fun | 5 => [(0, 0), (1, 1), (2, 3), (3, 7), (4, 15), (5, 31), (6, 63), (7, 127), (8, 255), (9, 511), (10, 1023)] | 11 => [(0, 0), (1, 1), (2, 3), (3, 7), (4, 15), (5, 31), (6, 63), (7, 127), (8, 255), (9, 511), (10, 1023), (11, 2047), (12, 4095), (13, 8191), (14, 16383), (15, 32767), (16, 65535), (17, 131071)] | 17 => [(0, 0), (1, 1), (2, 3), (3, 7), (4, 15), (5, 31), (6, 63), (7, 127), (8, 255), (9, 511), (10, 1023), (11, 2047)] | 23 => [(0, 0), (1, 1), (2, 3), (3, 7), (4, 15), (5, 31), (6, 63), (7, 127), (8, 255), (9, 511), (10, 1023), (11, 2047), (12, 4095), (13, 8191), (14, 16383), (15, 32767), (16, 65535), (17, 131071)] | 35 => [(0, 0), (1, 1), (2, 3), (3, 7), (4, 15), (5, 31), (6, 63), (7, 127), (8, 255), (9, 511), (10, 1023), (11, 2047), (12, 4095), (13, 8191)] | _ => [] }
def slices_symMergeCmpFunc_api_Item_.F [Pan] (x0 x1 x2 x3 x4 : Value) (w : World) (Q : Value → World → Prop) : Prop :=
 pN Tryz.prog (oBin .sub 3 (.tmp 25) (.tmp 26) x2 x1) w fun x27 w1 =>
 pN Tryz.prog (oBin .eql 3 (.tmp 27) (.const (.int .i64 1)) x27 (.int .i64 1)) w1 fun x28 w2 =>
 pIf x28
 (∃ (L3 : Value → Value → World → Prop) (m3 : Value → Value → World → Nat),
 L3 x2 x3 w2 ∧
 ∀ (_k3 : Env) (i10l3 : Value) (j11l3 : Value) (w3 : World), L3 i10l3 j11l3 w3 →
 pN Tryz.prog (oBin .lss 3 (.tmp 31) (.tmp 32) i10l3 j11l3) w3 fun x33 w4 =>
 pIf x33
 (pN Tryz.prog (oBin .add 3 (.tmp 34) (.tmp 35) i10l3 j11l3) w4 fun x36 w5 =>
 pN Tryz.prog (oConv 3 97 x36) w5 fun x37 w6 =>
 pN Tryz.prog (oBin .shr 97 (.tmp 37) (.const (.int .u64 1)) x37 (.int .u64 1)) w6 fun x38 w7 =>
 pN Tryz.prog (oConv 97 3 x38) w7 fun x39 w8 =>
 pDr w8 fun w9 =>
 pA Tryz.prog (oIdx 30 x0 x39) fun x43 =>
 pL Tryz.prog (oLoad 49 x43) w9 fun x44 =>
 pA Tryz.prog (oIdx 30 x0 x1) fun x47 =>
 pL Tryz.prog (oLoad 49 x47) w9 fun x48 =>
 pN Tryz.prog (oCallV x4 [x44, x48]) w9 fun x49 w10 =>
 (True) ∧ (pA Tryz.prog (oBin .lss 3 (.tmp 49) (.const (.int .i64 0)) x49 (.int .i64 0)) fun x50 =>
 pIf x50
 (pN Tryz.prog (oBin .add 3 (.tmp 51) (.const (.int .i64 1)) x39 (.int .i64 1)) w10 fun x52 w11 =>
 (L3 x52 j11l3 w11 ∧ m3 x52 j11l3 w11 < m3 i10l3 j11l3 w3))
 ((L3 i10l3 x39 w10 ∧ m3 i10l3 x39 w10 < m3 i10l3 j11l3 w3))))
 (∃ (L9 : Value → World → Prop) (m9 : Value → World → Nat),
 L9 x1 w4 ∧
 ∀ (_k9 : Env) (k13l9 : Value) (w12 : World), L9 k13l9 w12 →
 pN Tryz.prog (oBin .sub 3 (.tmp 56) (.const (.int .i64 1)) i10l3 (.int .i64 1)) w12 fun x57 w13 =>
 pN Tryz.prog (oBin .lss 3 (.tmp 55) (.tmp 57) k13l9 x57) w13 fun x58 w14 =>
 pIf x58
 (pDr w14 fun w15 =>
 pA Tryz.prog (oBin .add 3 (.tmp 64) (.const (.int .i64 1)) k13l9 (.int .i64 1)) fun x65 =>
 pA Tryz.prog (oBin .add 3 (.tmp 67) (.const (.int .i64 1)) k13l9 (.int .i64 1)) fun x68 =>
 pA Tryz.prog (oIdx 30 x0 x68) fun x69 =>
 pL Tryz.prog (oLoad 49 x69) w15 fun x70 =>
 pA Tryz.prog (oIdx 30 x0 k13l9) fun x73 =>
 pL Tryz.prog (oLoad 49 x73) w15 fun x74 =>
 pA Tryz.prog (oIdx 30 x0 k13l9) fun x75 =>
 pN Tryz.prog (oStore 49 x75 x70) w15 fun _ w16 =>
 (True) ∧ (pA Tryz.prog (oIdx 30 x0 x65) fun x76 =>
 pN Tryz.prog (oStore 49 x76 x74) w16 fun _ w17 =>
 (True) ∧ (pN Tryz.prog (oBin .add 3 (.tmp 59) (.const (.int .i64 1)) k13l9 (.int .i64 1)) w17 fun x60 w18 =>
 (L9 x60 w18 ∧ m9 x60 w18 < m9 k13l9 w12))))
 (Q (.tuple #[]) w14)))
 (pN Tryz.prog (oBin .sub 3 (.tmp 77) (.tmp 78) x3 x2) w2 fun x79 w19 =>
 pN Tryz.prog (oBin .eql 3 (.tmp 79) (.const (.int .i64 1)) x79 (.int .i64 1)) w19 fun x80 w20 =>
 pIf x80
 (∃ (L15 : Value → Value → World → Prop) (m15 : Value → Value → World → Nat),
 L15 x1 x2 w20 ∧
 ∀ (_k15 : Env) (i14l15 : Value) (j15l15 : Value) (w21 : World), L15 i14l15 j15l15 w21 →
 pN Tryz.prog (oBin .lss 3 (.tmp 83) (.tmp 84) i14l15 j15l15) w21 fun x85 w22 =>
 pIf x85
 (pN Tryz.prog (oBin .add 3 (.tmp 86) (.tmp 87) i14l15 j15l15) w22 fun x88 w23 =>
 pN Tryz.prog (oConv 3 97 x88) w23 fun x89 w24 =>
 pN Tryz.prog (oBin .shr 97 (.tmp 89) (.const (.int .u64 1)) x89 (.int .u64 1)) w24 fun x90 w25 =>
 pN Tryz.prog (oConv 97 3 x90) w25 fun x91 w26 =>
 pDr w26 fun w27 =>
 pA Tryz.prog (oIdx 30 x0 x2) fun x95 =>
 pL Tryz.prog (oLoad 49 x95) w27 fun x96 =>
 pA Tryz.prog (oIdx 30 x0 x91) fun x99 =>
 pL Tryz.prog (oLoad 49 x99) w27 fun x100 =>
 pN Tryz.prog (oCallV x4 [x96, x100]) w27 fun x101 w28 =>
 (True) ∧ (pA Tryz.prog (oBin .lss 3 (.tmp 101) (.const (.int .i64 0)) x101 (.int .i64 0)) fun x102 =>
 pA Tryz.prog (oUn .not x102) fun x103 =>
 pIf x103
 (pN Tryz.prog (oBin .add 3 (.tmp 104) (.const (.int .i64 1)) x91 (.int .i64 1)) w28 fun x105 w29 =>
 (L15 x105 j15l15 w29 ∧ m15 x105 j15l15 w29 < m15 i14l15 j15l15 w21))
 ((L15 i14l15 x91 w28 ∧ m15 i14l15 x91 w28 < m15 i14l15 j15l15 w21))))
 (∃ (L21 : Value → World → Prop) (m21 : Value → World → Nat),
 L21 x2 w22 ∧
 ∀ (_k21 : Env) (k17l21 : Value) (w30 : World), L21 k17l21 w30 →
 pN Tryz.prog (oBin .gtr 3 (.tmp 108) (.tmp 109) k17l21 i14l15) w30 fun x110 w31 =>
 pIf x110
 (pDr w31 fun w32 =>
 pA Tryz.prog (oBin .sub 3 (.tmp 116) (.const (.int .i64 1)) k17l21 (.int .i64 1)) fun x117 =>
 pA Tryz.prog (oBin .sub 3 (.tmp 119) (.const (.int .i64 1)) k17l21 (.int .i64 1)) fun x120 =>
 pA Tryz.prog (oIdx 30 x0 x120) fun x121 =>
 pL Tryz.prog (oLoad 49 x121) w32 fun x122 =>
 pA Tryz.prog (oIdx 30 x0 k17l21) fun x125 =>
 pL Tryz.prog (oLoad 49 x125) w32 fun x126 =>
 pA Tryz.prog (oIdx 30 x0 k17l21) fun x127 =>
 pN Tryz.prog (oStore 49 x127 x122) w32 fun _ w33 =>
 (True) ∧ (pA Tryz.prog (oIdx 30 x0 x117) fun x128 =>
 pN Tryz.prog (oStore 49 x128 x126) w33 fun _ w34 =>
 (True) ∧ (pN Tryz.prog (oBin .sub 3 (.tmp 111) (.const (.int .i64 1)) k17l21 (.int .i64 1)) w34 fun x112 w35 =>
 (L21 x112 w35 ∧ m21 x112 w35 < m21 k17l21 w30))))
 (Q (.tuple #[]) w31)))
 (pN Tryz.prog (oBin .add 3 (.tmp 129) (.tmp 130) x1 x3) w20 fun x131 w36 =>
 pN Tryz.prog (oConv 3 97 x131) w36 fun x132 w37 =>
 pN Tryz.prog (oBin .shr 97 (.tmp 132) (.const (.int .u64 1)) x132 (.int .u64 1)) w37 fun x133 w38 =>
 pN Tryz.prog (oConv 97 3 x133) w38 fun x134 w39 =>
 pN Tryz.prog (oBin .add 3 (.tmp 135) (.tmp 136) x134 x2) w39 fun x137 w40 =>
 ∃ I32 : Value → Value → World → Prop,
 (pN Tryz.prog (oBin .gtr 3 (.tmp 138) (.tmp 139) x2 x134) w40 fun x140 w41 =>
 pIf x140
 (pN Tryz.prog (oBin .sub 3 (.tmp 141) (.tmp 142) x137 x3) w41 fun x143 w42 =>
 I32 x143 x134 w42)
 (I32 x1 x2 w41)) ∧
 ∀ (_j32 : Env) (start20c32 : Value) (r21c32 : Value) (w43 : World), I32 start20c32 r21c32 w43 →
 pN Tryz.prog (oBin .sub 3 (.tmp 147) (.const (.int .i64 1)) x137 (.int .i64 1)) w43 fun x148 w44 =>
 ∃ (L33 : Value → Value → World → Prop) (m33 : Value → Value → World → Nat),
 L33 start20c32 r21c32 w44 ∧
 ∀ (_k33 : Env) (start20l33 : Value) (r21l33 : Value) (w45 : World), L33 start20l33 r21l33 w45 →
 pN Tryz.prog (oBin .lss 3 (.tmp 149) (.tmp 150) start20l33 r21l33) w45 fun x151 w46 =>
 pIf x151
 (pN Tryz.prog (oBin .add 3 (.tmp 152) (.tmp 153) start20l33 r21l33) w46 fun x154 w47 =>
 pN Tryz.prog (oConv 3 97 x154) w47 fun x155 w48 =>
 pN Tryz.prog (oBin .shr 97 (.tmp 155) (.const (.int .u64 1)) x155 (.int .u64 1)) w48 fun x156 w49 =>
 pN Tryz.prog (oConv 97 3 x156) w49 fun x157 w50 =>
 pDr w50 fun w51 =>
 pA Tryz.prog (oBin .sub 3 (.tmp 160) (.tmp 161) x148 x157) fun x162 =>
 pA Tryz.prog (oIdx 30 x0 x162) fun x163 =>
 pL Tryz.prog (oLoad 49 x163) w51 fun x164 =>
 pA Tryz.prog (oIdx 30 x0 x157) fun x167 =>
 pL Tryz.prog (oLoad 49 x167) w51 fun x168 =>
 pN Tryz.prog (oCallV x4 [x164, x168]) w51 fun x169 w52 =>
 (True) ∧ (pA Tryz.prog (oBin .lss 3 (.tmp 169) (.const (.int .i64 0)) x169 (.int .i64 0)) fun x170 =>
 pA Tryz.prog (oUn .not x170) fun x171 =>
 pIf x171
 (pN Tryz.prog (oBin .add 3 (.tmp 172) (.const (.int .i64 1)) x157 (.int .i64 1)) w52 fun x173 w53 =>
 (L33 x173 r21l33 w53 ∧ m33 x173 r21l33 w53 < m33 start20l33 r21l33 w45))
 ((L33 start20l33 x157 w52 ∧ m33 start20l33 x157 w52 < m33 start20l33 r21l33 w45))))
 (pN Tryz.prog (oBin .sub 3 (.tmp 175) (.tmp 176) x137 start20l33) w46 fun x177 w54 =>
 ∃ I41 : World → Prop,
 (pN Tryz.prog (oBin .lss 3 (.tmp 178) (.tmp 179) start20l33 x2) w54 fun x180 w55 =>
 pGd (gB x180 true) (pN Tryz.prog (oMv x2) w55) w55 fun x182 w56 =>
 pGd (gB x180 true) (pN Tryz.prog (oMv x177) w56) w56 fun x183 w57 =>
 pGd (gB x180 true) (pN Tryz.prog (oBin .lss 3 (.tmp 182) (.tmp 183) x182 x183) w57) w57 fun x184 w58 =>
 pN Tryz.prog (oPick x180 x184 (.bool false)) w58 fun x185 w59 =>
 pIf x185
 (pN Tryz.prog (oCall 207 [x0, start20l33, x2, x177, x4]) w59 fun _ w60 =>
 I41 w60)
 (I41 w59)) ∧
 ∀ (_j41 : Env) (w61 : World), I41 w61 →
 ∃ I43 : World → Prop,
 (pN Tryz.prog (oBin .lss 3 (.tmp 192) (.tmp 193) x1 start20l33) w61 fun x194 w62 =>
 pGd (gB x194 true) (pN Tryz.prog (oMv start20l33) w62) w62 fun x196 w63 =>
 pGd (gB x194 true) (pN Tryz.prog (oMv x134) w63) w63 fun x197 w64 =>
 pGd (gB x194 true) (pN Tryz.prog (oBin .lss 3 (.tmp 196) (.tmp 197) x196 x197) w64) w64 fun x198 w65 =>
 pN Tryz.prog (oPick x194 x198 (.bool false)) w65 fun x199 w66 =>
 pIf x199
 (pN Tryz.prog (oCall 177 [x0, x1, start20l33, x134, x4]) w66 fun _ w67 =>
 I43 w67)
 (I43 w66)) ∧
 ∀ (_j43 : Env) (w68 : World), I43 w68 →
 pN Tryz.prog (oBin .lss 3 (.tmp 206) (.tmp 207) x134 x177) w68 fun x208 w69 =>
 pGd (gB x208 true) (pN Tryz.prog (oMv x177) w69) w69 fun x210 w70 =>
 pGd (gB x208 true) (pN Tryz.prog (oMv x3) w70) w70 fun x211 w71 =>
 pGd (gB x208 true) (pN Tryz.prog (oBin .lss 3 (.tmp 210) (.tmp 211) x210 x211) w71) w71 fun x212 w72 =>
 pN Tryz.prog (oPick x208 x212 (.bool false)) w72 fun x213 w73 =>
 pIf x213
 (pN Tryz.prog (oCall 177 [x0, x134, x177, x3, x4]) w73 fun _ w74 =>
 Q (.tuple #[]) w74)
 (Q (.tuple #[]) w73))))
theorem slices_symMergeCmpFunc_api_Item_.calls [Pan] {x0 x1 x2 x3 x4 : Value} {w : World} {Q : Value → World → Prop} (h : slices_symMergeCmpFunc_api_Item_.F x0 x1 x2 x3 x4 w Q) : Calls Tryz.prog 177 #[x0, x1, x2, x3, x4] w (retP Q) := calls_lift mixed slices_symMergeCmpFunc_api_Item_.H [x0, x1, x2, x3, x4] Tryz.func177 (by kernel_rfl) (by kernel_rfl) h

def slices_rotateCmpFunc_api_Item_.H : Hints := { cut := fun  | _ => none, loop := fun | 2 => ([10, 11], 1125899906583552) | _ => ([], 0), order := fun  | _ => [] }
def slices_rotateCmpFunc_api_Item_.F [Pan] (x0 x1 x2 x3 x4 : Value) (w : World) (Q : Value → World → Prop) : Prop :=
 pN Tryz.prog (oBin .sub 3 (.tmp 12) (.tmp 13) x2 x1) w fun x14 w1 =>
 pN Tryz.prog (oBin .sub 3 (.tmp 15) (.tmp 16) x3 x2) w1 fun x17 w2 =>
 ∃ (L2 : Value → Value → World → Prop) (m2 : Value → Value → World → Nat),
 L2 x14 x17 w2 ∧
 ∀ (_k2 : Env) (i10l2 : Value) (j11l2 : Value) (w3 : World), L2 i10l2 j11l2 w3 →
 pN Tryz.prog (oBin .neq 3 (.tmp 18) (.tmp 19) i10l2 j11l2) w3 fun x20 w4 =>
 pIf x20
 (pN Tryz.prog (oBin .gtr 3 (.tmp 21) (.tmp 22) i10l2 j11l2) w4 fun x23 w5 =>
 pIf x23
 (pN Tryz.prog (oBin .sub 3 (.tmp 25) (.tmp 26) x2 i10l2) w5 fun x27 w6 =>
 pN Tryz.prog (oCall 219 [x0, x27, x2, j11l2, x4]) w6 fun _ w7 =>
 pN Tryz.prog (oBin .sub 3 (.tmp 32) (.tmp 33) i10l2 j11l2) w7 fun x34 w8 =>
 (L2 x34 j11l2 w8 ∧ m2 x34 j11l2 w8 < m2 i10l2 j11l2 w3))
 (pN Tryz.prog (oBin .sub 3 (.tmp 36) (.tmp 37) x2 i10l2) w5 fun x38 w9 =>
 pN Tryz.prog (oBin .add 3 (.tmp 39) (.tmp 40) x2 j11l2) w9 fun x41 w10 =>
 pN Tryz.prog (oBin .sub 3 (.tmp 41) (.tmp 42) x41 i10l2) w10 fun x43 w11 =>
 pN Tryz.prog (oCall 219 [x0, x38, x43, i10l2, x4]) w11 fun _ w12 =>
 pN Tryz.prog (oBin .sub 3 (.tmp 47) (.tmp 48) j11l2 i10l2) w12 fun x49 w13 =>
 (L2 i10l2 x49 w13 ∧ m2 i10l2 x49 w13 < m2 i10l2 j11l2 w3)))
 (pN Tryz.prog (oBin .sub 3 (.tmp 51) (.tmp 52) x2 i10l2) w4 fun x53 w14 =>
 pN Tryz.prog (oCall 219 [x0, x53, x2, i10l2, x4]) w14 fun _ w15 =>
 Q (.tuple #[]) w15)
theorem slices_rotateCmpFunc_api_Item_.calls [Pan] {x0 x1 x2 x3 x4 : Value} {w : World} {Q : Value → World → Prop} (h : slices_rotateCmpFunc_api_Item_.F x0 x1 x2 x3 x4 w Q) : Calls Tryz.prog 207 #[x0, x1, x2, x3, x4] w (retP Q) := calls_lift mixed slices_rotateCmpFunc_api_Item_.H [x0, x1, x2, x3, x4] Tryz.func207 (by kernel_rfl) (by kernel_rfl) h

def slices_swapRangeCmpFunc_api_Item_.H : Hints := { cut := fun  | _ => none, loop := fun | 1 => ([10], 274877905920) | _ => ([], 0), order := fun | 3 => [(0, 0), (1, 1), (2, 3), (3, 7), (4, 15), (5, 31), (6, 63), (7, 127), (8, 255), (9, 511), (10, 1023), (11, 2047), (12, 4095), (13, 8191), (14, 16383), (15, 32767), (16, 65535), (17, 131071), (18, 262143), (19, 524287), (20, 1048575), (21, 2097151), (22, 4194303), (23, 8388607)] | _ => [] }
def slices_swapRangeCmpFunc_api_Item_.F [Pan] (x0 x1 x2 x3 x4 : Value) (w : World) (Q : Value → World → Prop) : Prop :=
 ∃ (L1 : Value → World → Prop) (m1 : Value → World → Nat),
 L1 (.int .i64 0) w ∧
 ∀ (_k1 : Env) (i10l1 : Value) (w1 : World), L1 i10l1 w1 →
 pN Tryz.prog (oBin .lss 3 (.tmp 11) (.tmp 12) i10l1 x3) w1 fun x13 w2 =>
 pIf x13
 (pDr w2 fun w3 =>
 pA Tryz.prog (oBin .add 3 (.tmp 17) (.tmp 18) x1 i10l1) fun x19 =>
 pA Tryz.prog (oBin .add 3 (.tmp 21) (.tmp 22) x2 i10l1) fun x23 =>
 pA Tryz.prog (oBin .add 3 (.tmp 25) (.tmp 26) x2 i10l1) fun x27 =>
 pA Tryz.prog (oIdx 30 x0 x27) fun x28 =>
 pL Tryz.prog (oLoad 49 x28) w3 fun x29 =>
 pA Tryz.prog (oBin .add 3 (.tmp 31) (.tmp 32) x1 i10l1) fun x33 =>
 pA Tryz.prog (oIdx 30 x0 x33) fun x34 =>
 pL Tryz.prog (oLoad 49 x34) w3 fun x35 =>
 pA Tryz.prog (oIdx 30 x0 x19) fun x36 =>
 pN Tryz.prog (oStore 49 x36 x29) w3 fun _ w4 =>
 (True) ∧ (pA Tryz.prog (oIdx 30 x0 x23) fun x37 =>
 pN Tryz.prog (oStore 49 x37 x35) w4 fun _ w5 =>
 (True) ∧ (pN Tryz.prog (oBin .add 3 (.tmp 14) (.const (.int .i64 1)) i10l1 (.int .i64 1)) w5 fun x15 w6 =>
 (L1 x15 w6 ∧ m1 x15 w6 < m1 i10l1 w1))))
 (Q (.tuple #[]) w2)
theorem slices_swapRangeCmpFunc_api_Item_.calls [Pan] {x0 x1 x2 x3 x4 : Value} {w : World} {Q : Value → World → Prop} (h : slices_swapRangeCmpFunc_api_Item_.F x0 x1 x2 x3 x4 w Q) : Calls Tryz.prog 219 #[x0, x1, x2, x3, x4] w (retP Q) := calls_lift mixed slices_swapRangeCmpFunc_api_Item_.H [x0, x1, x2, x3, x4] Tryz.func219 (by kernel_rfl) (by kernel_rfl) h

end Go.Proofs.YtikmogfhhggafaaGreatDoor

namespace Go.Proofs.YtikmogfhhggafaaGreatDoor
open Go
attribute [local irreducible] oMv oV oU oCall oCallV oBi oBin oUn oLoad oStore oNil oFld oField oIdx oIndex oPick oAlloc oBox oBuild oBs oConv oMk oSl oExt oFn oIface oMap oLook oMapUp oRange oNext oEntry oInv oAssert oPanic oRes pN pA pL pDr pIf gA pGd Calls
section
variable [Pan] {E w : World} {K Q : Value → World → Prop} {L M N : List HA} {l r : List UInt8} {s s2 : Sl} {c : T_api_Config} {b : Nat} {d : D.T} {li : List I32} {lt : List T_api_Item}

theorem SCloneB_ok (hS : Sat E w L) [hr : Rds cd_uint8 L s l] (hl : l.length ≤ 140737488355328) (hQ : ∀ s' w', Sat E w' (rows cd_uint8 s' l :: L) → Q (.slice s'.a l.length s'.c) w') :
    Calls Tryz.prog 64 #[.slice s.a l.length s.c] w (retP Q) := by
  refine slices_Clone___byte_byte_.calls ?_
  unfold slices_Clone___byte_byte_.F
  obtain ⟨_, ao, cap, hv, hcap, hnil, hc⟩ := hS.rds (C := cd_uint8) (s := s)
  simp only [Value.slice.injEq, true_and] at hv
  obtain ⟨hv1, hv2⟩ := hv
  cases ao with
  | none =>
    obtain rfl : l = [] := List.length_eq_zero_iff.1 (hnil rfl).1
    rw [hv1]
    repeat' (first | refine pN_eql_slc ?_ | refine pIf_t ?_ | fail)
    exact hQ ⟨none, 0⟩ _ (hS.nil 5 1)
  | some a =>
    have hd : s.a.isNone = false := by rw [hv1]; rfl
    refine pN_eql_slc ?_
    rw [hd]
    repeat' (first | refine pIf_f ?_ | (refine pN_b0 hS ?_; clear hS; intro s w hS) | (refine pN_app hS (by first | rfl | omega | simpa only [go_sem] using True.intro | (simp only [go_sem]; omega)) (by first | rfl | omega | simpa only [go_sem] using True.intro | (simp only [go_sem]; omega)) (by first | omega | (simp only [go_sem]; omega)) ?_; clear hS; intro s w hS) | fail)
    exact hQ _ _ hS
theorem SCloneI_ok (hS : Sat E w L) [hr : Rds (cdI 58) L s li] (hl : li.length ≤ 1099511627776) (hQ : ∀ s' w', Sat E w' (rows (cdI 58) s' li :: L) → Q (.slice s'.a li.length s'.c) w') :
    Calls Tryz.prog 65 #[.slice s.a li.length s.c] w (retP Q) := by
  refine slices_Clone___api_ID_api_ID_.calls ?_
  unfold slices_Clone___api_ID_api_ID_.F
  obtain ⟨_, ao, cap, hv, hcap, hnil, hc⟩ := hS.rds (C := cdI 58) (s := s)
  simp only [Value.slice.injEq, true_and] at hv
  obtain ⟨hv1, hv2⟩ := hv
  cases ao with
  | none =>
    obtain rfl : li = [] := List.length_eq_zero_iff.1 (hnil rfl).1
    rw [hv1]
    repeat' (first | refine pN_eql_slc ?_ | refine pIf_t ?_ | fail)
    exact hQ ⟨none, 0⟩ _ (hS.nil 58 32)
  | some a =>
    have hd : s.a.isNone = false := by rw [hv1]; rfl
    refine pN_eql_slc ?_
    rw [hd]
    repeat' (first | refine pIf_f ?_ | (refine pN_b0 hS ?_; clear hS; intro s w hS) | (refine pN_app hS (by first | rfl | omega | simpa only [go_sem] using True.intro | (simp only [go_sem]; omega)) (by first | rfl | omega | simpa only [go_sem] using True.intro | (simp only [go_sem]; omega)) (by first | omega | (simp only [go_sem]; omega)) ?_; clear hS; intro s w hS) | fail)
    exact hQ _ _ hS
theorem SCloneT_ok (hS : Sat E w L) [hr : Rds cd_api_Item L s lt] (hl : lt.length ≤ 1099511627776) (hQ : ∀ s' w', Sat E w' (rows cd_api_Item s' lt :: L) → Q (.slice s'.a lt.length s'.c) w') :
    Calls Tryz.prog 95 #[.slice s.a lt.length s.c] w (retP Q) := by
  refine slices_Clone___api_Item_api_Item_.calls ?_
  unfold slices_Clone___api_Item_api_Item_.F
  obtain ⟨_, ao, cap, hv, hcap, hnil, hc⟩ := hS.rds (C := cd_api_Item) (s := s)
  simp only [Value.slice.injEq, true_and] at hv
  obtain ⟨hv1, hv2⟩ := hv
  cases ao with
  | none =>
    obtain rfl : lt = [] := List.length_eq_zero_iff.1 (hnil rfl).1
    rw [hv1]
    repeat' (first | refine pN_eql_slc ?_ | refine pIf_t ?_ | fail)
    exact hQ ⟨none, 0⟩ _ (hS.nil 49 6)
  | some a =>
    have hd : s.a.isNone = false := by rw [hv1]; rfl
    refine pN_eql_slc ?_
    rw [hd]
    repeat' (first | refine pIf_f ?_ | (refine pN_b0 hS ?_; clear hS; intro s w hS) | (refine pN_app hS (by first | rfl | omega | simpa only [go_sem] using True.intro | (simp only [go_sem]; omega)) (by first | rfl | omega | simpa only [go_sem] using True.intro | (simp only [go_sem]; omega)) (by first | omega | (simp only [go_sem]; omega)) ?_; clear hS; intro s w hS) | fail)
    exact hQ _ _ hS

theorem DHas_ok (hS : Sat E w L) [hf : Fnd (Dep c b) L d N] (i : I32) (hQ : ∀ w, Sat E w (Dep c b d :: N) → Q (.bool (d.has i)) w) :
    Calls Tryz.prog 18 #[.pointer (some ⟨b, 0, none⟩), idV i] w (retP Q) := by
  refine depot_Depot_Has.calls ?_
  unfold depot_Depot_Has.F
  have hS1 := hS.fd (Dep c b)
  clear hS hf
  obtain ⟨mb, nb, pl, nl, ht, hS⟩ := Dep.opn hS1
  clear hS1
  have hh : d.has i = (D.look pl i).isSome := by unfold D.T.has; rw [ht.look]; cases D.look pl i <;> rfl
  rw [hh] at hQ
  have hv0 := vals_get pl i
  repeat' (first | refine pL_la_at (n := 32) hS (bvs i.l) (i32t i) (i32n i) ?_ | refine pN_lko (P := Tryz.prog) (t := 126) (ke := idV) (b := mb) hS i (fun v hv => ?_) (fun hv => ?_) | refine pL_l hS (by first | rfl | assumption) ?_ | (refine pDr_go hS ?_; clear hS; intro w hS) | (refine pN_bx hS (by rfl) ?_; clear hS; intro a w hS) | refine ⟨trivial, ?_⟩ | refine pA_v (hk := ?_) | fail)
  · rw [hv0] at hv
    cases hl : D.look pl i with
    | none => rw [hl] at hv; cases hv
    | some x =>
      rw [hl] at hQ
      skip
      have hS : Sat E w (depP c b d.k mb nb pl nl N) := hS.to
      exact hQ _ (Dep.shut ht rfl hS)
  · rw [hv0] at hv
    cases hl : D.look pl i with
    | some x => rw [hl] at hv; cases hv
    | none =>
      rw [hl] at hQ
      skip
      have hS : Sat E w (depP c b d.k mb nb pl nl N) := hS.to
      exact hQ _ (Dep.shut ht rfl hS)

theorem DRoot_ok (hS : Sat E w L) [hf : Fnd (Dep c b) L d N] (n : NKey) (hb : ∀ q, D.look d.ns n.1 = some q → q.length ≤ 1099511627776)
    (hno : D.look d.ns n.1 = none → ∀ w, Sat E w (Dep c b d :: N) → Q (.tuple #[.slice none 0 0, .int .i64 8]) w)
    (hok : ∀ q, D.look d.ns n.1 = some q → ∀ s w, Sat E w (rows (cdI 58) s q :: Dep c b d :: N) → Q (.tuple #[.slice s.a q.length s.c, .int .i64 0]) w) :
    Calls Tryz.prog 54 #[.pointer (some ⟨b, 0, none⟩), nke n] w (retP Q) := by
  refine depot_Depot_Root.calls ?_
  unfold depot_Depot_Root.F
  have hS1 := hS.fd (Dep c b)
  clear hS hf
  obtain ⟨mb, nb, pl, nl, ht, hS⟩ := Dep.opn hS1
  clear hS1
  have hh := ht.name n
  have hv0 := vals_get nl n
  repeat' (first | refine pN_lko (P := Tryz.prog) (t := 127) (ke := nke) (b := nb) hS n (fun v hv => ?_) (fun hv => ?_) | refine pIf_t ?_ | refine pIf_f ?_ | refine pN_l hS (by first | rfl | assumption) ?_ | refine pN_v (hk := ?_) | fail)
  · rw [hv0] at hv
    cases hl : D.look nl n with
    | none => rw [hl] at hv; cases hv
    | some x =>
      rw [hl] at hv hh
      obtain ⟨sx, q⟩ := x
      have hv : Value.slice sx.a q.length sx.c = v := Option.some.inj hv
      have hh : D.look d.ns n.1 = some q := hh
      subst hv
      have hq := hb _ hh
      haveI : RdP (cdI 58) (bag (keep (cdI 58) nl)) sx q := keep_rd hl
      repeat' (first | (refine pc_slices_Clone___api_ID_api_ID_ (SCloneI_ok (s := sx) (li := q) hS hq ?_); clear hS; intro s2 w hS) | fail)
      have hS : Sat E w (depP c b d.k mb nb pl nl (rows (cdI 58) s2 q :: N)) := hS.to
      exact hok _ hh _ _ (Dep.shut ht rfl hS).to
  · rw [hv0] at hv
    cases hl : D.look nl n with
    | some x => rw [hl] at hv; cases hv
    | none =>
      rw [hl] at hh
      skip
      have hS : Sat E w (depP c b d.k mb nb pl nl N) := hS.to
      exact hno hh _ (Dep.shut ht rfl hS)
end
end Go.Proofs.YtikmogfhhggafaaGreatDoor

namespace Go.Proofs.YtikmogfhhggafaaGreatDoor
open Go
set_option maxRecDepth 100000

def state_PropsByte.F [Pan] (x0 : Value) (w : World) (Q : Value → World → Prop) : Prop :=
 pN Tryz.prog (oBox 23 x0) w fun x1 w1 =>
 pN Tryz.prog (oFld 23 x1 0) w1 fun x4 w2 =>
 pN Tryz.prog (oLoad 3 x4) w2 fun x5 w3 =>
 pN Tryz.prog (oBin .lss 3 (.tmp 5) (.const (.int .i64 0)) x5 (.int .i64 0)) w3 fun x6 w4 =>
 pGd (gB x6 false) (pN Tryz.prog (oFld 23 x1 1) w4) w4 fun x8 w5 =>
 pGd (gB x6 false) (pN Tryz.prog (oLoad 3 x8) w5) w5 fun x9 w6 =>
 pGd (gB x6 false) (pN Tryz.prog (oBin .lss 3 (.tmp 9) (.const (.int .i64 0)) x9 (.int .i64 0)) w6) w6 fun x10 w7 =>
 pN Tryz.prog (oPick x6 (.bool true) x10) w7 fun x11 w8 =>
 pGd (gB x11 false) (pN Tryz.prog (oFld 23 x1 2) w8) w8 fun x13 w9 =>
 pGd (gB x11 false) (pN Tryz.prog (oLoad 3 x13) w9) w9 fun x14 w10 =>
 pGd (gB x11 false) (pN Tryz.prog (oBin .lss 3 (.tmp 14) (.const (.int .i64 0)) x14 (.int .i64 0)) w10) w10 fun x15 w11 =>
 pN Tryz.prog (oPick x11 (.bool true) x15) w11 fun x16 w12 =>
 pGd (gB x16 false) (pN Tryz.prog (oFld 23 x1 2) w12) w12 fun x18 w13 =>
 pGd (gB x16 false) (pN Tryz.prog (oLoad 3 x18) w13) w13 fun x19 w14 =>
 pGd (gB x16 false) (pN Tryz.prog (oBin .gtr 3 (.tmp 19) (.const (.int .i64 4)) x19 (.int .i64 4)) w14) w14 fun x20 w15 =>
 pN Tryz.prog (oPick x16 (.bool true) x20) w15 fun x21 w16 =>
 pGd (gB x21 false) (pN Tryz.prog (oFld 23 x1 0) w16) w16 fun x23 w17 =>
 pGd (gB x21 false) (pN Tryz.prog (oLoad 3 x23) w17) w17 fun x24 w18 =>
 pGd (gB x21 false) (pN Tryz.prog (oBin .gtr 3 (.tmp 24) (.const (.int .i64 4)) x24 (.int .i64 4)) w18) w18 fun x25 w19 =>
 pN Tryz.prog (oPick x21 (.bool true) x25) w19 fun x26 w20 =>
 pGd (gB x26 false) (pN Tryz.prog (oFld 23 x1 1) w20) w20 fun x28 w21 =>
 pGd (gB x26 false) (pN Tryz.prog (oLoad 3 x28) w21) w21 fun x29 w22 =>
 pGd (gB x26 false) (pN Tryz.prog (oFld 23 x1 0) w22) w22 fun x30 w23 =>
 pGd (gB x26 false) (pN Tryz.prog (oLoad 3 x30) w23) w23 fun x31 w24 =>
 pGd (gB x26 false) (pN Tryz.prog (oBin .sub 3 (.const (.int .i64 4)) (.tmp 31) (.int .i64 4) x31) w24) w24 fun x32 w25 =>
 pGd (gB x26 false) (pN Tryz.prog (oBin .gtr 3 (.tmp 29) (.tmp 32) x29 x32) w25) w25 fun x33 w26 =>
 pN Tryz.prog (oPick x26 (.bool true) x33) w26 fun x34 w27 =>
 pIf x34
 (Q (.tuple #[(.int .i64 0), (.int .i64 6)]) w27)
 (pN Tryz.prog (oFld 23 x1 2) w27 fun x35 w28 =>
 pN Tryz.prog (oLoad 3 x35) w28 fun x36 w29 =>
 pN Tryz.prog (oBin .mul 3 (.tmp 36) (.const (.int .i64 5)) x36 (.int .i64 5)) w29 fun x37 w30 =>
 pN Tryz.prog (oFld 23 x1 1) w30 fun x38 w31 =>
 pN Tryz.prog (oLoad 3 x38) w31 fun x39 w32 =>
 pN Tryz.prog (oBin .add 3 (.tmp 37) (.tmp 39) x37 x39) w32 fun x40 w33 =>
 pN Tryz.prog (oBin .mul 3 (.tmp 40) (.const (.int .i64 9)) x40 (.int .i64 9)) w33 fun x41 w34 =>
 pN Tryz.prog (oFld 23 x1 0) w34 fun x42 w35 =>
 pN Tryz.prog (oLoad 3 x42) w35 fun x43 w36 =>
 pN Tryz.prog (oBin .add 3 (.tmp 41) (.tmp 43) x41 x43) w36 fun x44 w37 =>
 Q (.tuple #[x44, (.int .i64 0)]) w37)
theorem state_PropsByte.calls [Pan] {x0 : Value} {w : World} {Q : Value → World → Prop} (h : state_PropsByte.F x0 w Q) : Calls Tryz.prog 119 #[x0] w (retP Q) := calls_lift mixed .z [x0] Tryz.func119 (by kernel_rfl) (by kernel_rfl) h

end Go.Proofs.YtikmogfhhggafaaGreatDoor

namespace Go.Proofs.YtikmogfhhggafaaGreatDoor
open Go
set_option maxRecDepth 100000

def chain_Legal.H : Hints := { cut := fun | 8 => some ([11], 18446744073709549568) | 9 => some ([], 18446744073709549572) | _ => none, loop := fun  | _ => ([], 0), order := fun  | _ => [] }
def chain_Legal.F [Pan] (x0 : Value) (w : World) (Q : Value → World → Prop) : Prop :=
 pN Tryz.prog (oBox 25 x0) w fun x1 w1 =>
 pN Tryz.prog (oFld 25 x1 2) w1 fun x6 w2 =>
 pN Tryz.prog (oLoad 23 x6) w2 fun x7 w3 =>
 pN Tryz.prog (oCall 119 [x7]) w3 fun x8 w4 =>
 pN Tryz.prog (oExt x8 0) w4 fun _ w5 =>
 pN Tryz.prog (oExt x8 1) w5 fun x10 w6 =>
 ∃ I9 : World → Prop,
 (∃ I8 : Value → World → Prop,
 (pN Tryz.prog (oBin .neq 38 (.tmp 12) (.const (.int .i64 0)) x10 (.int .i64 0)) w6 fun x13 w7 =>
 pIf x13
 (I8 x13 w7)
 (pN Tryz.prog (oFld 25 x1 0) w7 fun x14 w8 =>
 pN Tryz.prog (oLoad 3 x14) w8 fun x15 w9 =>
 pN Tryz.prog (oBin .neq 3 (.tmp 15) (.const (.int .i64 0)) x15 (.int .i64 0)) w9 fun x16 w10 =>
 pGd (gB x16 true) (pN Tryz.prog (oFld 25 x1 0) w10) w10 fun x18 w11 =>
 pGd (gB x16 true) (pN Tryz.prog (oLoad 3 x18) w11) w11 fun x19 w12 =>
 pGd (gB x16 true) (pN Tryz.prog (oBin .neq 3 (.tmp 19) (.const (.int .i64 1)) x19 (.int .i64 1)) w12) w12 fun x20 w13 =>
 pN Tryz.prog (oPick x16 x20 (.bool false)) w13 fun x21 w14 =>
 pGd (gB x21 true) (pN Tryz.prog (oFld 25 x1 0) w14) w14 fun x23 w15 =>
 pGd (gB x21 true) (pN Tryz.prog (oLoad 3 x23) w15) w15 fun x24 w16 =>
 pGd (gB x21 true) (pN Tryz.prog (oBin .neq 3 (.tmp 24) (.const (.int .i64 4)) x24 (.int .i64 4)) w16) w16 fun x25 w17 =>
 pN Tryz.prog (oPick x21 x25 (.bool false)) w17 fun x26 w18 =>
 pGd (gB x26 true) (pN Tryz.prog (oFld 25 x1 0) w18) w18 fun x28 w19 =>
 pGd (gB x26 true) (pN Tryz.prog (oLoad 3 x28) w19) w19 fun x29 w20 =>
 pGd (gB x26 true) (pN Tryz.prog (oBin .neq 3 (.tmp 29) (.const (.int .i64 10)) x29 (.int .i64 10)) w20) w20 fun x30 w21 =>
 pN Tryz.prog (oPick x26 x30 (.bool false)) w21 fun x31 w22 =>
 pIf x31
 (I8 x31 w22)
 (pN Tryz.prog (oFld 25 x1 1) w22 fun x32 w23 =>
 pN Tryz.prog (oLoad 3 x32) w23 fun x33 w24 =>
 pN Tryz.prog (oBin .lss 3 (.tmp 33) (.const (.int .i64 0)) x33 (.int .i64 0)) w24 fun x34 w25 =>
 pGd (gB x34 false) (pN Tryz.prog (oFld 25 x1 1) w25) w25 fun x36 w26 =>
 pGd (gB x34 false) (pN Tryz.prog (oLoad 3 x36) w26) w26 fun x37 w27 =>
 pGd (gB x34 false) (pN Tryz.prog (oBin .gtr 3 (.tmp 37) (.const (.int .i64 256)) x37 (.int .i64 256)) w27) w27 fun x38 w28 =>
 pN Tryz.prog (oPick x34 (.bool true) x38) w28 fun x39 w29 =>
 pIf x39
 (I8 x39 w29)
 (pN Tryz.prog (oFld 25 x1 3) w29 fun x40 w30 =>
 pN Tryz.prog (oLoad 3 x40) w30 fun x41 w31 =>
 pN Tryz.prog (oBin .lss 3 (.tmp 41) (.const (.int .i64 4096)) x41 (.int .i64 4096)) w31 fun x42 w32 =>
 pGd (gB x42 false) (pN Tryz.prog (oFld 25 x1 3) w32) w32 fun x44 w33 =>
 pGd (gB x42 false) (pN Tryz.prog (oLoad 3 x44) w33) w33 fun x45 w34 =>
 pGd (gB x42 false) (pN Tryz.prog (oBin .gtr 3 (.tmp 45) (.const (.int .i64 67108864)) x45 (.int .i64 67108864)) w34) w34 fun x46 w35 =>
 pN Tryz.prog (oPick x42 (.bool true) x46) w35 fun x47 w36 =>
 pIf x47
 (I8 x47 w36)
 (pN Tryz.prog (oFld 25 x1 4) w36 fun x48 w37 =>
 pN Tryz.prog (oLoad 3 x48) w37 fun x49 w38 =>
 pN Tryz.prog (oBin .lss 3 (.tmp 49) (.const (.int .i64 1)) x49 (.int .i64 1)) w38 fun x50 w39 =>
 pGd (gB x50 false) (pN Tryz.prog (oFld 25 x1 4) w39) w39 fun x52 w40 =>
 pGd (gB x50 false) (pN Tryz.prog (oLoad 3 x52) w40) w40 fun x53 w41 =>
 pGd (gB x50 false) (pN Tryz.prog (oBin .gtr 3 (.tmp 53) (.const (.int .i64 2147483648)) x53 (.int .i64 2147483648)) w41) w41 fun x54 w42 =>
 pN Tryz.prog (oPick x50 (.bool true) x54) w42 fun x55 w43 =>
 pIf x55
 (I8 x55 w43)
 (pN Tryz.prog (oFld 25 x1 5) w43 fun x56 w44 =>
 pN Tryz.prog (oLoad 3 x56) w44 fun x57 w45 =>
 pN Tryz.prog (oBin .lss 3 (.tmp 57) (.const (.int .i64 0)) x57 (.int .i64 0)) w45 fun x58 w46 =>
 pGd (gB x58 false) (pN Tryz.prog (oFld 25 x1 5) w46) w46 fun x60 w47 =>
 pGd (gB x58 false) (pN Tryz.prog (oLoad 3 x60) w47) w47 fun x61 w48 =>
 pGd (gB x58 false) (pN Tryz.prog (oBin .gtr 3 (.tmp 61) (.const (.int .i64 2)) x61 (.int .i64 2)) w48) w48 fun x62 w49 =>
 pN Tryz.prog (oPick x58 (.bool true) x62) w49 fun x63 w50 =>
 I8 x63 w50)))))) ∧
 ∀ (_j8 : Env) (v11c8 : Value) (w51 : World), I8 v11c8 w51 →
 pIf v11c8
 (Q (.int .i64 6) w51)
 (I9 w51)) ∧
 ∀ (_j9 : Env) (w52 : World), I9 w52 →
 Q (.int .i64 0) w52
theorem chain_Legal.calls [Pan] {x0 : Value} {w : World} {Q : Value → World → Prop} (h : chain_Legal.F x0 w Q) : Calls Tryz.prog 86 #[x0] w (retP Q) := calls_lift mixed chain_Legal.H [x0] Tryz.func86 (by kernel_rfl) (by kernel_rfl) h

end Go.Proofs.YtikmogfhhggafaaGreatDoor

namespace Go.Proofs.YtikmogfhhggafaaGreatDoor
open Go
namespace D
def okP (p : T_api_Props) : Prop := 0 ≤ p.LC ∧ 0 ≤ p.LP ∧ 0 ≤ p.PB ∧ p.PB ≤ 4 ∧ p.LC + p.LP ≤ 4
def okC (c : T_api_Config) : Prop := okP c.Props ∧ (c.Check = 0 ∨ c.Check = 1 ∨ c.Check = 4 ∨ c.Check = 10) ∧ 0 ≤ c.Delta ∧ c.Delta ≤ 256 ∧ 4096 ≤ c.Dict ∧ c.Dict ≤ 67108864 ∧ 1 ≤ c.Block ∧ c.Block ≤ 2147483648 ∧ 0 ≤ c.Mode ∧ c.Mode ≤ 2
instance (p : T_api_Props) : Decidable (okP p) := by unfold okP; infer_instance
instance (c : T_api_Config) : Decidable (okC c) := by unfold okC; infer_instance
end D
attribute [local irreducible] oMv oV oU oCall oCallV oBi oBin oUn oLoad oStore oNil oFld oField oIdx oIndex oPick oAlloc oBox oBuild oBs oConv oMk oSl oExt oFn oIface oMap oLook oMapUp oRange oNext oEntry oInv oAssert oPanic oRes pN pA pL pDr pIf gA pGd Calls
section
variable [Pan] {E w : World} {K Q : Value → World → Prop} {L M N : List HA}
theorem PByte_in (p : T_api_Props) (hp : D.okP p) (hS : Sat E w M) (hQ : ∀ w, Sat E w M → Q (.tuple #[.int .i64 ((p.PB * 5 + p.LP) * 9 + p.LC), .int .i64 0]) w) : Calls Tryz.prog 119 #[.agg #[.int .i64 p.LC, .int .i64 p.LP, .int .i64 p.PB]] w (retP Q) := by
  refine state_PropsByte.calls ?_
  unfold state_PropsByte.F
  obtain ⟨h1, h2, h3, h4, h5⟩ := hp
  repeat' (first | ((first | refine pN_lss_s ?_ ?_ | refine pN_gtr_s ?_ ?_) <;> intro hc <;> try (exfalso; omega)) | refine pIf_f ?_ | refine pGd_go (by rfl) ?_ | refine pN_l hS (by first | rfl | assumption) ?_ | (refine pN_bx hS (by rfl) ?_; clear hS; intro a w hS) | refine pN_v (hk := ?_) | fail)
  exact hQ _ hS.to
theorem PByte_no (p : T_api_Props) (hp : ¬ D.okP p) (hS : Sat E w M) (hQ : ∀ w, Sat E w M → Q (.tuple #[.int .i64 0, .int .i64 6]) w) : Calls Tryz.prog 119 #[.agg #[.int .i64 p.LC, .int .i64 p.LP, .int .i64 p.PB]] w (retP Q) := by
  refine state_PropsByte.calls ?_
  unfold state_PropsByte.F
  unfold D.okP at hp
  repeat' (first | ((first | refine pN_lss_s ?_ ?_ | refine pN_gtr_s ?_ ?_) <;> intro hc <;> try (exfalso; omega)) | refine pIf_t ?_ | refine pGd_go (by rfl) ?_ | refine pGd_no (by rfl) ?_ | refine pN_l hS (by first | rfl | assumption) ?_ | (refine pN_bx hS (by rfl) ?_; clear hS; intro a w hS) | refine pN_v (hk := ?_) | fail)
  all_goals exact hQ _ hS.to
set_option maxHeartbeats 2000000 in
theorem Chain_ok (c : T_api_Config) (hS : Sat E w M) (hQ : ∀ w, Sat E w M → Q (.int .i64 (if D.okC c then 0 else 6)) w) : Calls Tryz.prog 86 #[.agg c.enc.toArray] w (retP Q) := by
  refine chain_Legal.calls ?_
  unfold chain_Legal.F
  refine pN_bx (z := c.enc) hS rfl ?_
  clear hS
  intro b w hS
  have hyes : ∀ w, Sat E w M → D.okC c → Q (.int .i64 0) w := fun w hS h => by rw [if_pos h] at hQ; exact hQ _ hS
  have hno : ∀ w, Sat E w M → ¬ D.okC c → Q (.int .i64 6) w := fun w hS h => by rw [if_neg h] at hQ; exact hQ _ hS
  clear hQ
  unfold D.okC at hyes hno
  obtain ⟨ck, dl, p, di, bl, mo⟩ := c
  have e : T_api_Config.enc ⟨ck, dl, p, di, bl, mo⟩ = [.int .i64 ck, .int .i64 dl, .int .i64 p.LC, .int .i64 p.LP, .int .i64 p.PB, .int .i64 di, .int .i64 bl, .int .i64 mo] := rfl
  rw [e] at hS
  dsimp only at hyes hno
  by_cases hp : D.okP p
  · repeat' (first | refine pN_la_at (n := 3) hS [.int .i64 p.LC, .int .i64 p.LP, .int .i64 p.PB] rfl rfl ?_ | (refine pc_state_PropsByte (PByte_in p hp hS ?_); clear hS; intro w hS) | refine pN_v (hk := ?_) | fail)
    refine ⟨fun w => Sat E w M ∧ D.okP p ∧ (ck = 0 ∨ ck = 1 ∨ ck = 4 ∨ ck = 10) ∧ 0 ≤ dl ∧ dl ≤ 256 ∧ 4096 ≤ di ∧ di ≤ 67108864 ∧ 1 ≤ bl ∧ bl ≤ 2147483648 ∧ 0 ≤ mo ∧ mo ≤ 2, ?_, fun _ w ⟨h1, h2⟩ => hyes _ h1 h2⟩
    refine ⟨fun v w => ∃ x : Bool, v = .bool x ∧ Sat E w M ∧ (x = false ↔ (ck = 0 ∨ ck = 1 ∨ ck = 4 ∨ ck = 10) ∧ 0 ≤ dl ∧ dl ≤ 256 ∧ 4096 ≤ di ∧ di ≤ 67108864 ∧ 1 ≤ bl ∧ bl ≤ 2147483648 ∧ 0 ≤ mo ∧ mo ≤ 2), ?_, ?_⟩
    · by_cases h1 : ck = 0 ∨ ck = 1 ∨ ck = 4 ∨ ck = 10
      · by_cases h2 : 0 ≤ dl ∧ dl ≤ 256
        · by_cases h3 : 4096 ≤ di ∧ di ≤ 67108864
          · by_cases h4 : 1 ≤ bl ∧ bl ≤ 2147483648
            · rcases h1 with h1 | h1 | h1 | h1 <;> subst h1
              all_goals
                repeat' (first | ((first | refine pN_lss_s ?_ ?_ | refine pN_gtr_s ?_ ?_) <;> intro hc <;> try (exfalso; omega)) | (refine pN_neq_s ?_ ?_ <;> intro hc <;> try (exfalso; first | omega | exact hc rfl | exact hc (by assumption) | exact absurd hc (by assumption))) | refine pIf_f ?_ | refine pGd_go (by rfl) ?_ | refine pGd_no (by rfl) ?_ | refine pN_l hS (by first | rfl | assumption) ?_ | refine pN_v (hk := ?_) | fail)
                all_goals exact ⟨_, rfl, hS.to, by simp <;> omega⟩
            · rcases h1 with h1 | h1 | h1 | h1 <;> subst h1
              all_goals
                repeat' (first | ((first | refine pN_lss_s ?_ ?_ | refine pN_gtr_s ?_ ?_) <;> intro hc <;> try (exfalso; omega)) | (refine pN_neq_s ?_ ?_ <;> intro hc <;> try (exfalso; first | omega | exact hc rfl | exact hc (by assumption) | exact absurd hc (by assumption))) | refine pIf_t ?_ | refine pIf_f ?_ | refine pGd_go (by rfl) ?_ | refine pGd_no (by rfl) ?_ | refine pN_l hS (by first | rfl | assumption) ?_ | refine pN_v (hk := ?_) | fail)
                all_goals exact ⟨_, rfl, hS.to, by simp <;> omega⟩
          · rcases h1 with h1 | h1 | h1 | h1 <;> subst h1
            all_goals
              repeat' (first | ((first | refine pN_lss_s ?_ ?_ | refine pN_gtr_s ?_ ?_) <;> intro hc <;> try (exfalso; omega)) | (refine pN_neq_s ?_ ?_ <;> intro hc <;> try (exfalso; first | omega | exact hc rfl | exact hc (by assumption) | exact absurd hc (by assumption))) | refine pIf_t ?_ | refine pIf_f ?_ | refine pGd_go (by rfl) ?_ | refine pGd_no (by rfl) ?_ | refine pN_l hS (by first | rfl | assumption) ?_ | refine pN_v (hk := ?_) | fail)
              all_goals exact ⟨_, rfl, hS.to, by simp <;> omega⟩
        · rcases h1 with h1 | h1 | h1 | h1 <;> subst h1
          all_goals
            repeat' (first | ((first | refine pN_lss_s ?_ ?_ | refine pN_gtr_s ?_ ?_) <;> intro hc <;> try (exfalso; omega)) | (refine pN_neq_s ?_ ?_ <;> intro hc <;> try (exfalso; first | omega | exact hc rfl | exact hc (by assumption) | exact absurd hc (by assumption))) | refine pIf_t ?_ | refine pIf_f ?_ | refine pGd_go (by rfl) ?_ | refine pGd_no (by rfl) ?_ | refine pN_l hS (by first | rfl | assumption) ?_ | refine pN_v (hk := ?_) | fail)
            all_goals exact ⟨_, rfl, hS.to, by simp <;> omega⟩
      · repeat' (first | (refine pN_neq_s ?_ ?_ <;> intro hc <;> try (exfalso; first | omega | exact hc rfl | exact hc (by assumption) | exact absurd hc (by assumption))) | refine pIf_t ?_ | refine pIf_f ?_ | refine pGd_go (by rfl) ?_ | refine pN_l hS (by first | rfl | assumption) ?_ | refine pN_v (hk := ?_) | fail)
        all_goals exact ⟨_, rfl, hS.to, by simp <;> omega⟩
    · clear hS
      rintro _ _ w ⟨x, rfl, hS, hx⟩
      cases x with
      | true =>
        repeat' (first | refine pIf_t ?_ | fail)
        exact hno _ hS fun h => by have := hx.2 h.2; cases this
      | false =>
        repeat' (first | refine pIf_f ?_ | fail)
        exact ⟨hS, hp, hx.1 rfl⟩
  · repeat' (first | refine pN_la_at (n := 3) hS [.int .i64 p.LC, .int .i64 p.LP, .int .i64 p.PB] rfl rfl ?_ | (refine pc_state_PropsByte (PByte_no p hp hS ?_); clear hS; intro w hS) | (refine pN_neq_s ?_ ?_ <;> intro hc <;> try (exfalso; first | omega | exact hc rfl | exact hc (by assumption) | exact absurd hc (by assumption))) | refine pIf_t ?_ | refine pN_v (hk := ?_) | refine ⟨_, ?_, fun _ _ h => h⟩ | refine ⟨_, ?_, fun _ _ _ h => h⟩ | fail)
    all_goals exact hno _ hS.to fun h => hp h.1
end
end Go.Proofs.YtikmogfhhggafaaGreatDoor

namespace Go.Proofs.YtikmogfhhggafaaGreatDoor
open Go
set_option maxRecDepth 100000

def cdc_Legal.F [Pan] (x0 : Value) (w : World) (Q : Value → World → Prop) : Prop :=
 pN Tryz.prog (oBox 27 x0) w fun x1 w1 =>
 pN Tryz.prog (oFld 27 x1 0) w1 fun x3 w2 =>
 pN Tryz.prog (oLoad 3 x3) w2 fun x4 w3 =>
 pN Tryz.prog (oBin .lss 3 (.tmp 4) (.const (.int .i64 64)) x4 (.int .i64 64)) w3 fun x5 w4 =>
 pGd (gB x5 false) (pN Tryz.prog (oFld 27 x1 0) w4) w4 fun x7 w5 =>
 pGd (gB x5 false) (pN Tryz.prog (oLoad 3 x7) w5) w5 fun x8 w6 =>
 pGd (gB x5 false) (pN Tryz.prog (oFld 27 x1 1) w6) w6 fun x9 w7 =>
 pGd (gB x5 false) (pN Tryz.prog (oLoad 3 x9) w7) w7 fun x10 w8 =>
 pGd (gB x5 false) (pN Tryz.prog (oBin .gtr 3 (.tmp 8) (.tmp 10) x8 x10) w8) w8 fun x11 w9 =>
 pN Tryz.prog (oPick x5 (.bool true) x11) w9 fun x12 w10 =>
 pGd (gB x12 false) (pN Tryz.prog (oFld 27 x1 1) w10) w10 fun x14 w11 =>
 pGd (gB x12 false) (pN Tryz.prog (oLoad 3 x14) w11) w11 fun x15 w12 =>
 pGd (gB x12 false) (pN Tryz.prog (oBin .gtr 3 (.tmp 15) (.const (.int .i64 1048576)) x15 (.int .i64 1048576)) w12) w12 fun x16 w13 =>
 pN Tryz.prog (oPick x12 (.bool true) x16) w13 fun x17 w14 =>
 pGd (gB x17 false) (pN Tryz.prog (oFld 27 x1 2) w14) w14 fun x19 w15 =>
 pGd (gB x17 false) (pN Tryz.prog (oLoad 3 x19) w15) w15 fun x20 w16 =>
 pGd (gB x17 false) (pN Tryz.prog (oBin .lss 3 (.tmp 20) (.const (.int .i64 0)) x20 (.int .i64 0)) w16) w16 fun x21 w17 =>
 pN Tryz.prog (oPick x17 (.bool true) x21) w17 fun x22 w18 =>
 pGd (gB x22 false) (pN Tryz.prog (oFld 27 x1 2) w18) w18 fun x24 w19 =>
 pGd (gB x22 false) (pN Tryz.prog (oLoad 3 x24) w19) w19 fun x25 w20 =>
 pGd (gB x22 false) (pN Tryz.prog (oBin .gtr 3 (.tmp 25) (.const (.int .i64 20)) x25 (.int .i64 20)) w20) w20 fun x26 w21 =>
 pN Tryz.prog (oPick x22 (.bool true) x26) w21 fun x27 w22 =>
 pIf x27
 (Q (.int .i64 6) w22)
 (Q (.int .i64 0) w22)
theorem cdc_Legal.calls [Pan] {x0 : Value} {w : World} {Q : Value → World → Prop} (h : cdc_Legal.F x0 w Q) : Calls Tryz.prog 87 #[x0] w (retP Q) := calls_lift mixed .z [x0] Tryz.func87 (by kernel_rfl) (by kernel_rfl) h

def cdc_ends.F [Pan] (x0 x1 : Value) (w : World) (Q : Value → World → Prop) : Prop :=
 pN Tryz.prog (oBox 47 x0) w fun x2 w1 =>
 pN Tryz.prog (oBox 27 x1) w1 fun x3 w2 =>
 pN Tryz.prog (oFn (.func 133) [] [x3, x2]) w2 fun x5 w3 =>
 Q x5 w3
theorem cdc_ends.calls [Pan] {x0 x1 : Value} {w : World} {Q : Value → World → Prop} (h : cdc_ends.F x0 x1 w Q) : Calls Tryz.prog 103 #[x0, x1] w (retP Q) := calls_lift mixed .z [x0, x1] Tryz.func103 (by kernel_rfl) (by kernel_rfl) h

def cdc_roll_eat.H : Hints := { cut := fun  | _ => none, loop := fun | 2 => ([10], 302231454903657293675760) | _ => ([], 0), order := fun | 4 => [(0, 0), (1, 1), (2, 3), (3, 7), (4, 15), (5, 31), (6, 63), (7, 127), (8, 255), (9, 511), (10, 1023), (11, 2047)] | 6 => [(0, 0), (1, 1), (2, 3), (3, 7), (4, 15), (5, 31), (6, 63), (7, 127), (8, 255), (9, 511), (10, 1023), (11, 2047), (12, 4095), (13, 8191), (14, 16383), (15, 32767), (16, 65535), (17, 131071), (18, 262143), (19, 524287), (20, 1048575), (21, 2097151), (22, 4194303), (23, 8388607), (24, 16777215), (25, 33554431), (26, 67108863), (27, 134217727), (28, 268435455), (29, 536870911), (30, 1073741823), (31, 2147483647), (32, 4294967295), (33, 8589934591), (34, 17179869183), (35, 34359738367)] | _ => [] }
def cdc_roll_eat.F [Pan] (x0 x1 : Value) (w : World) (Q : Value → World → Prop) : Prop :=
 pN Tryz.prog (oBi .len #[47] 3 [false] [x1]) w fun x9 w1 =>
 ∃ (L2 : Value → World → Prop) (m2 : Value → World → Nat),
 L2 (.int .i64 0) w1 ∧
 ∀ (_k2 : Env) (v10l2 : Value) (w2 : World), L2 v10l2 w2 →
 pN Tryz.prog (oBin .lss 3 (.tmp 10) (.tmp 9) v10l2 x9) w2 fun x11 w3 =>
 pIf x11
 (pN Tryz.prog (oIdx 47 x1 v10l2) w3 fun x13 w4 =>
 pN Tryz.prog (oLoad 5 x13) w4 fun x14 w5 =>
 pDr w5 fun w6 =>
 pA Tryz.prog (oNil x0) fun x17 =>
 pA Tryz.prog (oFld 230 x17 1) fun x18 =>
 pL Tryz.prog (oLoad 212 x18) w6 fun x19 =>
 pA Tryz.prog (oBin .shl 212 (.tmp 19) (.const (.int .u64 1)) x19 (.int .u64 1)) fun x20 =>
 pN Tryz.prog (oCall 182 [x14]) w6 fun x22 w7 =>
 ((Sem.run Tryz.prog (oLoad 212 x18) w7 = .ok (.value x19) w7) ∧ True) ∧ (pA Tryz.prog (oBin .add 212 (.tmp 20) (.tmp 22) x20 x22) fun x23 =>
 pA Tryz.prog (oNil x0) fun x24 =>
 pA Tryz.prog (oFld 230 x24 1) fun x25 =>
 pN Tryz.prog (oStore 212 x25 x23) w7 fun _ w8 =>
 (True) ∧ (pN Tryz.prog (oNil x0) w8 fun x27 w9 =>
 pN Tryz.prog (oFld 230 x27 2) w9 fun x28 w10 =>
 pN Tryz.prog (oLoad 3 x28) w10 fun x29 w11 =>
 pN Tryz.prog (oBin .add 3 (.tmp 29) (.const (.int .i64 1)) x29 (.int .i64 1)) w11 fun x30 w12 =>
 pN Tryz.prog (oNil x0) w12 fun x31 w13 =>
 pN Tryz.prog (oFld 230 x31 2) w13 fun x32 w14 =>
 pN Tryz.prog (oStore 3 x32 x30) w14 fun _ w15 =>
 pDr w15 fun w16 =>
 pA Tryz.prog (oNil x0) fun x34 =>
 pA Tryz.prog (oFld 230 x34 2) fun x35 =>
 pL Tryz.prog (oLoad 3 x35) w16 fun x36 =>
 pA Tryz.prog (oNil x0) fun x38 =>
 pA Tryz.prog (oFld 230 x38 0) fun x39 =>
 pA Tryz.prog (oFld 27 x39 0) fun x40 =>
 pL Tryz.prog (oLoad 3 x40) w16 fun x41 =>
 pA Tryz.prog (oBin .geq 3 (.tmp 36) (.tmp 41) x36 x41) fun x42 =>
 gA (gB x42 true) (pA Tryz.prog (oMv x0)) fun x44 =>
 gA (gB x42 true) (pA Tryz.prog (oNil x44)) fun x45 =>
 gA (gB x42 true) (pA Tryz.prog (oFld 230 x45 2)) fun x46 =>
 gA (gB x42 true) (pL Tryz.prog (oLoad 3 x46) w16) fun x47 =>
 gA (gB x42 true) (pA Tryz.prog (oMv x0)) fun x48 =>
 gA (gB x42 true) (pA Tryz.prog (oNil x48)) fun x49 =>
 gA (gB x42 true) (pA Tryz.prog (oFld 230 x49 0)) fun x50 =>
 gA (gB x42 true) (pA Tryz.prog (oFld 27 x50 1)) fun x51 =>
 gA (gB x42 true) (pL Tryz.prog (oLoad 3 x51) w16) fun x52 =>
 gA (gB x42 true) (pA Tryz.prog (oBin .eql 3 (.tmp 47) (.tmp 52) x47 x52)) fun x53 =>
 gA (gB x42 true) (pA Tryz.prog (oMv x53)) fun x54 =>
 gA (gB x54 false) (pA Tryz.prog (oMv x0)) fun x55 =>
 gA (gB x54 false) (pA Tryz.prog (oNil x55)) fun x56 =>
 gA (gB x54 false) (pA Tryz.prog (oFld 230 x56 1)) fun x57 =>
 gA (gB x54 false) (pL Tryz.prog (oLoad 212 x57) w16) fun x58 =>
 gA (gB x54 false) (pA Tryz.prog (oMv x0)) fun x59 =>
 gA (gB x54 false) (pA Tryz.prog (oNil x59)) fun x60 =>
 gA (gB x54 false) (pA Tryz.prog (oFld 230 x60 0)) fun x61 =>
 gA (gB x54 false) (pA Tryz.prog (oFld 27 x61 2)) fun x62 =>
 gA (gB x54 false) (pL Tryz.prog (oLoad 3 x62) w16) fun x63 =>
 gA (gB x54 false) (pA Tryz.prog (oBin .sub 3 (.const (.int .i64 64)) (.tmp 63) (.int .i64 64) x63)) fun x64 =>
 gA (gB x54 false) (pA Tryz.prog (oBin .shr 212 (.tmp 58) (.tmp 64) x58 x64)) fun x65 =>
 gA (gB x54 false) (pA Tryz.prog (oBin .eql 212 (.tmp 65) (.const (.int .u64 0)) x65 (.int .u64 0))) fun x66 =>
 gA (gB x42 true) (pA Tryz.prog (oPick x54 (.bool true) x66)) fun x67 =>
 pA Tryz.prog (oPick x42 x67 (.bool false)) fun x68 =>
 pIf x68
 (pN Tryz.prog (oNil x0) w16 fun x71 w17 =>
 pN Tryz.prog (oFld 230 x71 1) w17 fun x72 w18 =>
 pN Tryz.prog (oStore 212 x72 (.int .u64 0)) w18 fun _ w19 =>
 pN Tryz.prog (oNil x0) w19 fun x73 w20 =>
 pN Tryz.prog (oFld 230 x73 2) w20 fun x74 w21 =>
 pN Tryz.prog (oStore 3 x74 (.int .i64 0)) w21 fun _ w22 =>
 pN Tryz.prog (oBin .add 3 (.tmp 75) (.const (.int .i64 1)) v10l2 (.int .i64 1)) w22 fun x76 w23 =>
 Q (.tuple #[x76, (.bool true)]) w23)
 (pN Tryz.prog (oBin .add 3 (.tmp 10) (.const (.int .i64 1)) v10l2 (.int .i64 1)) w16 fun x77 w24 =>
 (L2 x77 w24 ∧ m2 x77 w24 < m2 v10l2 w2)))))
 (pN Tryz.prog (oBi .len #[47] 3 [false] [x1]) w3 fun x79 w25 =>
 Q (.tuple #[x79, (.bool false)]) w25)
theorem cdc_roll_eat.calls [Pan] {x0 x1 : Value} {w : World} {Q : Value → World → Prop} (h : cdc_roll_eat.F x0 x1 w Q) : Calls Tryz.prog 134 #[x0, x1] w (retP Q) := calls_lift mixed cdc_roll_eat.H [x0, x1] Tryz.func134 (by kernel_rfl) (by kernel_rfl) h

def cdc_Gear.F [Pan] (x0 : Value) (w : World) (Q : Value → World → Prop) : Prop :=
 pN Tryz.prog (oConv 5 212 x0) w fun x5 w1 =>
 pN Tryz.prog (oBin .add 212 (.tmp 5) (.const (.int .u64 1)) x5 (.int .u64 1)) w1 fun x6 w2 =>
 pN Tryz.prog (oBin .mul 212 (.tmp 6) (.const (.int .u64 11400714819323198485)) x6 (.int .u64 11400714819323198485)) w2 fun x7 w3 =>
 pN Tryz.prog (oBin .shr 212 (.tmp 9) (.const (.int .u64 30)) x7 (.int .u64 30)) w3 fun x10 w4 =>
 pN Tryz.prog (oBin .xor 212 (.tmp 8) (.tmp 10) x7 x10) w4 fun x11 w5 =>
 pN Tryz.prog (oBin .mul 212 (.tmp 11) (.const (.int .u64 13787848793156543929)) x11 (.int .u64 13787848793156543929)) w5 fun x12 w6 =>
 pN Tryz.prog (oBin .shr 212 (.tmp 14) (.const (.int .u64 27)) x12 (.int .u64 27)) w6 fun x15 w7 =>
 pN Tryz.prog (oBin .xor 212 (.tmp 13) (.tmp 15) x12 x15) w7 fun x16 w8 =>
 pN Tryz.prog (oBin .mul 212 (.tmp 16) (.const (.int .u64 10723151780598845931)) x16 (.int .u64 10723151780598845931)) w8 fun x17 w9 =>
 pN Tryz.prog (oBin .shr 212 (.tmp 19) (.const (.int .u64 31)) x17 (.int .u64 31)) w9 fun x20 w10 =>
 pN Tryz.prog (oBin .xor 212 (.tmp 18) (.tmp 20) x17 x20) w10 fun x21 w11 =>
 Q x21 w11
theorem cdc_Gear.calls [Pan] {x0 : Value} {w : World} {Q : Value → World → Prop} (h : cdc_Gear.F x0 w Q) : Calls Tryz.prog 182 #[x0] w (retP Q) := calls_lift mixed .z [x0] Tryz.func182 (by kernel_rfl) (by kernel_rfl) h

end Go.Proofs.YtikmogfhhggafaaGreatDoor

namespace Go.Proofs.YtikmogfhhggafaaGreatDoor
open Go

abbrev Fr (r : Option Nat) : Fence := { Fence.wide with round := r }
theorem Fr.all (r : Option Nat) (f : FuncId) : (Fr r).fn f := trivial
theorem Fr.deep (r : Option Nat) (n : Nat) : (Fr r).depth.isSome = true → 1 ≤ n := fun h => by cases h
theorem Fr.calls {r : Option Nat} {n : Nat} {P : Program} {f : FuncId} {args : Array Value} {w : World} {R : Ending → World → Prop} (h : Calls P f args w R) : CallsIn (Fr r) n P f args w R := (callsIn_wide (n := n)).2 h

def notDf (o : Oper) : Bool := match o.op with
  | .defer _ => false
  | _ => true
theorem notDf_sem {o : Oper} (h : notDf o = true) (r : Option Nat) (ρ : Operand → Value) : Oper.semAt r ρ o = execOp ρ o :=
  Oper.semAt_eq r ρ o fun c hc => by simp [notDf, hc] at h

def rY [Pan] (P : Program) (r : Result Next) (K : Value → World → Prop) : Prop :=
  match r with
  | .ok (.round l f tmps assign body) w' => RoundIn (Fr none) 0 P l f tmps assign body w' (retP K)
  | r => rN P r K
def pY [Pan] (P : Program) (m : Sem Next) (w : World) (K : Value → World → Prop) : Prop := rY P (m.run P w) K
theorem pY_of [Pan] {P : Program} {m : Sem Next} {w : World} {K : Value → World → Prop} (h : pN P m w K) : pY P m w K := by
  unfold pN at h
  unfold pY rY
  split
  · rename_i hr; rw [hr] at h; exact h.elim
  · exact h

def mayY : Op → Bool
  | .call { callee := .value (.tmp _), .. } => true
  | _ => false
def pX [Pan] (P : Program) (op : Op) (m : Sem Next) (w : World) (K : Value → World → Prop) : Prop :=
  match mayY op with
  | true => pY P m w K
  | false => pN P m w K
theorem pX_up [Pan] {P : Program} {op : Op} {m : Sem Next} {w : World} {K : Value → World → Prop} (h : pX P op m w K) : pY P m w K := by
  unfold pX at h
  split at h
  · exact h
  · exact pY_of h

def opR [Pan] (P : Program) (ops : Array Oper) (o : Oper) (ρ : Env) (w : World) (K : Value → World → Prop) : Prop :=
  match o.guard with
  | none => match o.op with
    | .move x => K (ev ρ x) w
    | .assign x => K (ev ρ x) w
    | op => pX P op (execE ρ o) w K
  | some (j, want) => pGd (wantE ops ρ j want) (pX P o.op (execE ρ o) w) w K

def rgR [Pan] (P : Program) (ops : Array Oper) : List Oper → Env → World → (Env → World → Prop) → Prop
  | [], ρ, w, K => K ρ w
  | o :: rest, ρ, w, K => opR P ops o ρ w fun v w' => rgR P ops rest (ρ.put o.dst v) w' K

def dwR [Pan] (P : Program) (ops : Array Oper) : Nat → Array Bool → Held → Env → World → (Env → World → Prop) → Prop
  | 0, L, _, ρ, w, K => match Region.ready .any ops L with
    | [] => K ρ w
    | _ => False
  | f + 1, L, h, ρ, w, K =>
    match pickFirst ops (Region.ready .any ops L) with
    | some i => match ops[i]?, Region.free .any ops L i with
      | some o, true => takeW P o (guardB ops o ρ) ρ w fun v => dwR P ops f (L.setIfInBounds i true) (holdsH i o (guardB ops o ρ) ρ v h) (ρ.put o.dst v) w K
      | _, _ => False
    | none => match Region.ready .any ops L with
      | [] => K ρ w
      | js => allL js fun j => match ops[j]? with
        | some o => opR P ops o ρ w fun v w' => heldOk P ops j w' h ∧ dwR P ops f (L.setIfInBounds j true) (dropH ops j h) (ρ.put o.dst v) w' K
        | none => False

def dwSR [Pan] (P : Program) (ops : Array Oper) (l : List Oper) : Scr → Held → Env → World → (Env → World → Prop) → Prop
  | [], _, ρ, w, K => K ρ w
  | (i, _) :: r, h, ρ, w, K => match nthO l i with
    | some o => match Nat.blt (kindOf o.op) 2 with
      | true => takeW P o (guardB ops o ρ) ρ w fun v => dwSR P ops l r (holdsH i o (guardB ops o ρ) ρ v h) (ρ.put o.dst v) w K
      | false => opR P ops o ρ w fun v w' => heldOk P ops i w' h ∧ dwSR P ops l r (dropH ops i h) (ρ.put o.dst v) w' K
    | none => False

section
variable [Pan] {P : Program} {n : Frm} {r : Option Nat}

theorem pY_wp {a : Act} {ρ : Env} (hf : Fits n a ρ) {o : Oper} (hd : notDf o = true) {w : World} {K : Value → World → Prop} {next : Act → World → Prop} {Q : Exit → Act → World → Prop}
    (hQ : ∀ c w, PZ n a c w → Q (.panic c) a w) (h : pY P (execE ρ o) w K) (hK : ∀ v w', K v w' → next (a.put o.dst v) w') : o.wpIn (Fr r) 0 P a w next Q := by
  refine ⟨fun _ _ => trivial, ?_⟩
  rw [notDf_sem hd, hf.eval]
  rw [execE_eq] at h
  unfold pY rY at h
  have hret : ∀ (e : Ending) (w'' : World), retP K e w'' → (match (motive := Ending → World → Prop) e, w'' with
      | .returned v, w'' => next (a.put o.dst v) w''
      | .panicked chain, w'' => Q (.panic chain) a w''
      | .outgrown, _ => LetsOut Q) := by
    intro e w'' he
    cases e with
    | returned v => exact hK _ _ he
    | panicked c => exact hQ _ _ (hf.pz he)
    | outgrown => exact he.elim
  split at h
  · rename_i l f tmps assign body w' hr
    rw [hr]
    exact ⟨Fr.deep _ _, RoundIn.mono h hret⟩
  · unfold rN at h
    split at h
    · rename_i v w' hr; rw [hr]; exact hK _ _ h
    · rename_i w' hr; rw [hr]; exact hK _ _ h
    · rename_i f args w' hr
      rw [hr]
      exact ⟨Fr.deep _ _, Fr.calls (Calls.mono h hret)⟩
    · rename_i v w' hr; rw [hr]; exact hQ _ _ (hf.pz h)
    · exact h.elim

theorem opR_none {ops : Array Oper} {o : Oper} {ρ : Env} {w : World} {K : Value → World → Prop} (hg : o.guard = none) (h : opR P ops o ρ w K) : pY P (execE ρ o) w K := by
  unfold opR at h
  rw [hg] at h
  dsimp only at h
  split at h
  · rename_i x hx; unfold execE; rw [hx]; exact h
  · rename_i x hx; unfold execE; rw [hx]; exact h
  · exact pX_up h

theorem rgR_wp {ops : Array Oper} (l : List Oper) : ∀ {a : Act} {ρ : Env} {w : World} {K : Env → World → Prop} {Q : Exit → Act → World → Prop},
    (∀ c a w, PZ n a c w → Q (.panic c) a w) → (∀ o ∈ l, notDf o = true) → (∀ t ∈ opWrites l, n.lo ≤ t ∧ t < n.n) → Fits n a ρ → rgR P ops l ρ w K →
    (∀ a' ρ' w', (∀ t, t ∉ opWrites l → a'.tmps.getD t undef = a.tmps.getD t undef) → Fits n a' ρ' → K ρ' w' → Q .normal a' w') →
    wpListIn (Fr r) 0 P ops Q l a w := by
  induction l with
  | nil =>
    intro a ρ w K Q hQ hnd hw hf h hK
    exact hK a ρ w (fun _ _ => rfl) hf h
  | cons o rest ih =>
    intro a ρ w K Q hQ hnd hw hf h hK
    have hd : ∀ t, o.dst = some t → n.lo ≤ t ∧ t < n.n := fun t ht => hw t (by simp [opWrites, ht])
    have ho := hnd o List.mem_cons_self
    have hrest : ∀ t ∈ opWrites rest, n.lo ≤ t ∧ t < n.n := fun t ht => hw t (by
      simp only [opWrites]; split
      · exact List.mem_cons_of_mem _ ht
      · exact ht)
    have hgo : ∀ v w', rgR P ops rest (ρ.put o.dst v) w' K → wpListIn (Fr r) 0 P ops Q rest (a.put o.dst v) w' := by
      intro v w' hr
      refine ih hQ (fun o h => hnd o (List.mem_cons_of_mem _ h)) hrest (hf.put hd v) hr fun a' ρ' w'' hk hf' hK' => hK a' ρ' w'' (fun t ht => ?_) hf' hK'
      have ht' : t ∉ opWrites rest := fun hm => ht (by
        simp only [opWrites]; split
        · exact List.mem_cons_of_mem _ hm
        · exact hm)
      rw [hk t ht']
      cases hdst : o.dst with
      | none => rfl
      | some d =>
        have hne : d ≠ t := fun e => ht (by simp [opWrites, hdst, e])
        simp only [Act.put, Array.getD_eq_getD_getElem?, Array.getElem?_setIfInBounds]
        rw [if_neg hne]
    simp only [rgR] at h
    cases hg : o.guard with
    | none =>
      exact wpListIn_plain hg fun K' hK' => pY_wp hf ho (fun c w h => hQ c a w h) (opR_none hg h) fun v w' hr => hK' _ _ (hgo v w' hr)
    | some g =>
      obtain ⟨j, want⟩ := g
      simp only [opR, hg] at h
      refine wpListIn_step fun K' hK' => ?_
      simp only [Region.wanted, hg, hf.yielded ops]
      simp only [pGd] at h
      split
      · rename_i hy
        rw [if_pos hy] at h
        exact pY_wp hf ho (fun c w h => hQ c a w h) (pX_up h) fun v w' hr => hK' _ _ (hgo v w' hr)
      · rename_i hy
        rw [if_neg hy] at h
        exact ⟨fun _ _ => trivial, hK' _ _ (hgo _ _ h)⟩
end

section
variable {P : Program} {ops : Array Oper} {Q : Exit → Act → World → Prop} {r : Option Nat}

theorem YieldsW.wpOpI {i : Nat} {o : Oper} {v : Value} {a : Act} {w : World} (hi : ops[i]? = some o) (hd : notDf o = true) (hy : YieldsW P ops o v a w)
    {K : Act → World → Prop} (h : K (a.put o.dst v) w) : wpOpIn (Fr r) 0 P ops Q i K a w := by
  unfold Go.wpOpIn
  simp only [hi]
  rcases hy with ⟨hw, hv⟩ | ⟨hw, rfl⟩
  · rw [if_pos hw]
    refine ⟨fun _ _ => trivial, ?_⟩
    rw [notDf_sem hd, hv]
    exact h
  · rw [if_neg (by simp [hw])]
    exact ⟨fun _ _ => trivial, h⟩

theorem wpOpI_putW {j : Nat} {oi oj : Oper} {v : Value} (φ : World → Prop) (hj : ops[j]? = some oj) (hdj : notDf oj = true) (hap : oi.apart ops oj = true)
    (hsi : ∀ cs b, oi.op ≠ .select cs b) (hsj : ∀ cs b, oj.op ≠ .select cs b)
    (hQ : ∀ c a w, Q (.panic c) (a.put oi.dst v) w → Q (.panic c) a w) (hL : ¬ LetsOut Q) {K : Act → World → Prop} {a : Act} {w : World}
    (hy : ∀ w, φ w → YieldsW P ops oi v a w) (h : wpOpIn (Fr r) 0 P ops Q j K (a.put oi.dst v) w) :
    wpOpIn (Fr r) 0 P ops Q j (fun a' w' => (∀ w, φ w → YieldsW P ops oi v a' w) ∧ K (a'.put oi.dst v) w') a w := by
  obtain ⟨h1, h2, h3⟩ := Oper.apart_spec hap
  have keep : ∀ (a : Act), (∀ w, φ w → YieldsW P ops oi v a w) → ∀ u, (∀ w, φ w → YieldsW P ops oi v (a.put oj.dst u) w) := fun a hy u w hw =>
    (hy w hw).of_same (execOp_put oi hsi a oj.dst u h3) (wanted_put oi a oj.dst u h3)
  have keepD : ∀ d, (∀ w, φ w → YieldsW P ops oi v { a with defers := d :: a.defers } w) := fun d w hw => (hy w hw).of_same rfl rfl
  unfold Go.wpOpIn at *
  simp only [hj] at *
  rw [wanted_put oj a oi.dst v h1] at h
  split
  · rename_i hw
    simp only [hw, if_true] at h
    refine ⟨fun _ _ => trivial, ?_⟩
    have h := h.2
    rw [notDf_sem hdj, execOp_put oj hsj a oi.dst v h1] at h
    rw [notDf_sem hdj]
    generalize (execOp a.eval oj).run P w = r at *
    cases r with
    | ok n w' =>
      cases n <;> simp only [Oper.uponIn] at h ⊢
      case value u => exact ⟨keep a hy u, by rw [← Act.put_comm a v u h2]; exact h⟩
      case skip => exact ⟨keep a hy _, by rw [← Act.put_comm a v undef h2]; exact h⟩
      case defer d =>
        refine ⟨keep _ (keepD d) _, ?_⟩
        rw [← Act.put_comm _ v undef h2, ← Act.put_defers]
        exact h
      case enter f args =>
        refine ⟨h.1, CallsIn.mono h.2 fun e w'' he => ?_⟩
        cases e with
        | returned u => exact ⟨keep a hy u, by rw [← Act.put_comm a v u h2]; exact he⟩
        | panicked c => exact hQ _ _ _ he
        | outgrown => exact he
      case row row args => exact ⟨h.1, RowsIn.mono h.2 fun u w'' he => ⟨keep a hy u, by rw [← Act.put_comm a v u h2]; exact he⟩⟩
      case round l f tmps assign body =>
        refine ⟨h.1, RoundIn.mono h.2 fun e w'' he => ?_⟩
        cases e with
        | returned u => exact ⟨keep a hy u, by rw [← Act.put_comm a v u h2]; exact he⟩
        | panicked c => exact hQ _ _ _ he
        | outgrown => exact he
    | halt x w' =>
      cases x <;> simp only [Oper.uponIn] at h ⊢
      case panic u => exact hQ _ _ _ h
  · rename_i hw
    simp only [hw] at h
    exact ⟨fun _ _ => trivial, keep a hy _, by rw [← Act.put_comm a v undef h2]; exact h.2⟩

def wpAnyTI (r : Option Nat) (P : Program) (ops : Array Oper) (Q : Exit → Act → World → Prop) : Nat → Array Bool → Trk → Act → World → Prop
  | 0, listed, _, a, w => Region.ready .any ops listed = [] ∧ Q .normal a w
  | fuel + 1, listed, trk, a, w =>
    (Region.ready .any ops listed = [] → Q .normal a w) ∧
    ∀ i ∈ Region.ready .any ops listed, wpOpIn (Fr r) 0 P ops Q i (fun a' w' => (∀ p ∈ dropT ops i trk, p.2 w') ∧ wpAnyTI r P ops Q fuel (listed.setIfInBounds i true) (dropT ops i trk) a' w') a w

theorem wpAnyIn_of_T : ∀ (fuel : Nat) (listed : Array Bool) (trk : Trk) (a : Act) (w : World), wpAnyTI r P ops Q fuel listed trk a w → wpAnyIn (Fr r) 0 P .any ops Q fuel listed a w
  | 0, _, _, _, _, h => h
  | fuel + 1, _, _, _, _, h => ⟨h.1, fun i hi => wpOpIn_mono (fun a' w' h' => wpAnyIn_of_T fuel _ _ a' w' h'.2) (h.2 i hi)⟩

theorem wpAnyTI_less : ∀ (fuel : Nat) (listed : Array Bool) (trk trk' : Trk) (a : Act) (w : World), (∀ p ∈ trk', p ∈ trk) → wpAnyTI r P ops Q fuel listed trk a w → wpAnyTI r P ops Q fuel listed trk' a w
  | 0, _, _, _, _, _, _, h => h
  | fuel + 1, _, trk, trk', _, _, hs, h => ⟨h.1, fun i hi => wpOpIn_mono (fun a' w' h' => by
      have hs' : ∀ p ∈ dropT ops i trk', p ∈ dropT ops i trk := fun p hp => by
        simp only [dropT, List.mem_filter] at hp ⊢
        exact ⟨hs p hp.1, hp.2⟩
      exact ⟨fun p hp => h'.1 p (hs' p hp), wpAnyTI_less fuel _ _ _ a' w' hs' h'.2⟩) (h.2 i hi)⟩

theorem wpAnyTI_first {i : Nat} {oi : Oper} {v : Value} {φ : World → Prop} (hi : ops[i]? = some oi) (hdi : notDf oi = true) (hnd : ∀ (j : Nat) (o : Oper), ops[j]? = some o → notDf o = true) (hsel : ∀ (j : Nat) (o : Oper) cs b, ops[j]? = some o → o.op ≠ .select cs b)
    (hQ : ∀ c a w, Q (.panic c) (a.put oi.dst v) w → Q (.panic c) a w) (hL : ¬ LetsOut Q) :
    ∀ (fuel : Nat) (listed : Array Bool) (trk : Trk) (a : Act) (w : World), Clo ops listed →
      (∀ j oj, ops[j]? = some oj → j ≠ i → listed.getD j true = false → (∀ e ∈ oj.after, Region.binds .any e = true → e.on ≠ i) → oi.apart ops oj = true) →
      i ∈ Region.ready .any ops listed → (∀ w, φ w → YieldsW P ops oi v a w) → φ w → (∀ p ∈ trk, p.2 w) →
      wpAnyTI r P ops Q fuel (listed.setIfInBounds i true) ((i, φ) :: trk) (a.put oi.dst v) w → wpAnyTI r P ops Q (fuel + 1) listed trk a w := by
  intro fuel
  induction fuel with
  | zero =>
    intro listed trk a w _ _ hr hy hφ ht H
    refine ⟨fun h => (by rw [h] at hr; cases hr), fun j hj => ?_⟩
    by_cases hji : j = i
    · subst hji
      exact (hy w hφ).wpOpI hi hdi ⟨fun p hp => ht p (by simp only [dropT, List.mem_filter] at hp; exact hp.1), H⟩
    · have := ready_mono hj hji
      rw [H.1] at this
      cases this
  | succ fuel ih =>
    intro listed trk a w hcl hfree hr hy hφ ht H
    refine ⟨fun h => (by rw [h] at hr; cases hr), fun j hj => ?_⟩
    by_cases hji : j = i
    · subst hji
      refine (hy w hφ).wpOpI hi hdi ⟨fun p hp => ht p (by simp only [dropT, List.mem_filter] at hp; exact hp.1), wpAnyTI_less _ _ _ _ _ _ (fun p hp => ?_) H⟩
      simp only [dropT, List.mem_filter] at hp
      exact List.mem_cons_of_mem _ hp.1
    · have h1 := H.2 j (ready_mono hj hji)
      obtain ⟨hjun, oj, hoj, hall⟩ := mem_ready.1 hj
      have hiun := (mem_ready.1 hr).1
      have hnl : listed.getD i false ≠ true := fun hl => by
        rcases Nat.lt_or_ge i listed.size with h' | h'
        · simp [h'] at hiun hl; rw [hiun] at hl; cases hl
        · simp [Array.getElem?_eq_none h'] at hl
      have hnot : ∀ e ∈ oj.after, Region.binds .any e = true → e.on ≠ i := fun e he hb heq => hnl (heq ▸ hall e he hb)
      have hnb : bfB ops ops.size i j = false := by
        cases hb : bfB ops ops.size i j with
        | false => rfl
        | true => exact absurd (hcl.bf _ _ _ hb ⟨oj, hoj, hall⟩) hnl
      have hdrop : dropT ops j ((i, φ) :: trk) = (i, φ) :: dropT ops j trk := by
        simp [dropT, hnb]
      have h2 := wpOpI_putW φ hoj (hnd j oj hoj) (hfree j oj hoj hji hjun hnot) (fun cs b => hsel i oi cs b hi) (fun cs b => hsel j oj cs b hoj) hQ hL hy h1
      have hfree' : ∀ k ok, ops[k]? = some ok → k ≠ i → (listed.setIfInBounds j true).getD k true = false →
          (∀ e ∈ ok.after, Region.binds .any e = true → e.on ≠ i) → oi.apart ops ok = true := fun k ok hk hki hun hno => by
        refine hfree k ok hk hki ?_ hno
        by_cases hjk : j = k
        · subst hjk; exact hjun
        · rw [getD_set_ne true hjk] at hun; exact hun
      refine wpOpIn_mono (fun a' w' h3 => ?_) h2
      obtain ⟨hy', hobl, H'⟩ := h3
      rw [hdrop] at hobl H'
      refine ⟨fun p hp => hobl p (List.mem_cons_of_mem _ hp), ih (listed.setIfInBounds j true) _ a' w' (hcl.add hj) hfree' (ready_mono hr (Ne.symm hji)) hy' (hobl (i, φ) List.mem_cons_self) (fun p hp => hobl p (List.mem_cons_of_mem _ hp)) ?_⟩
      rw [Array.setIfInBounds_comm _ _ hji]
      exact H'

theorem wpAnyTI_top {i : Nat} {f : Nat} {L : Array Bool} {trk : Trk} {a : Act} {w : World} (H : wpAnyTI r P ops Q f L trk a w) : wpAnyTI r P ops Q f L ((i, fun _ => True) :: trk) a w := by
  have gen : ∀ (f : Nat) (L : Array Bool) (trk trk' : Trk) (a : Act) (w : World), (∀ p ∈ trk', p ∈ trk ∨ ∀ w, p.2 w) → wpAnyTI r P ops Q f L trk a w → wpAnyTI r P ops Q f L trk' a w := by
    intro f
    induction f with
    | zero => intro L trk trk' a w _ h; exact h
    | succ f ih =>
      intro L trk trk' a w hs h
      refine ⟨h.1, fun i hi => wpOpIn_mono (fun a' w' h' => ?_) (h.2 i hi)⟩
      have hs' : ∀ p ∈ dropT ops i trk', p ∈ dropT ops i trk ∨ ∀ w, p.2 w := fun p hp => by
        simp only [dropT, List.mem_filter] at hp ⊢
        rcases hs p hp.1 with h | h
        · exact .inl ⟨h, hp.2⟩
        · exact .inr h
      exact ⟨fun p hp => (hs' p hp).elim (h'.1 p) (fun h => h w'), ih _ _ _ a' w' hs' h'.2⟩
  refine gen f L trk _ a w (fun p hp => ?_) H
  rcases List.mem_cons.1 hp with rfl | hp
  · exact .inr fun _ => trivial
  · exact .inl hp
end

section
variable {P : Program} {ops : Array Oper} {rd : Option Nat}

theorem dwR_any [Pan] {n : Frm} (hs : Region.noSelect ops = true) (hnd : ∀ (j : Nat) (o : Oper), ops[j]? = some o → notDf o = true) (hn : ∀ t ∈ opWrites ops.toList, n.lo ≤ t ∧ t < n.n) {Q : Exit → Act → World → Prop} (hQ : ∀ c a w, Q (.panic c) a w ↔ PZ n a c w) (hL : ¬ LetsOut Q) (a₀ : Act) {K : Env → World → Prop}
    (hK : ∀ a' ρ' w', (∀ t, t ∉ opWrites ops.toList → a'.tmps.getD t undef = a₀.tmps.getD t undef) → Fits n a' ρ' → K ρ' w' → Q .normal a' w') :
    ∀ (f : Nat) (L : Array Bool) (h : Held) (ρ : Env) (a : Act) (w : World), Clo ops L → Fits n a ρ → (∀ t, t ∉ opWrites ops.toList → a.tmps.getD t undef = a₀.tmps.getD t undef) →
      (∀ p ∈ trkOf P h, p.2 w) → dwR P ops f L h ρ w K → wpAnyTI rd P ops Q f L (trkOf P h) a w := by
  have hput : ∀ {a : Act} {j : Nat} {o : Oper} (v : Value), ops[j]? = some o → (∀ t, t ∉ opWrites ops.toList → a.tmps.getD t undef = a₀.tmps.getD t undef) →
      (∀ t, t ∉ opWrites ops.toList → (a.put o.dst v).tmps.getD t undef = a₀.tmps.getD t undef) := by
    intro a j o v hj hk t ht
    rw [← hk t ht]
    cases hd : o.dst with
    | none => rfl
    | some d =>
      have hne : d ≠ t := fun e => ht (e ▸ opWrites_mem hj hd)
      simp only [Act.put, Array.getD_eq_getD_getElem?, Array.getElem?_setIfInBounds]
      rw [if_neg hne]
  have hdst : ∀ {j : Nat} {o : Oper}, ops[j]? = some o → ∀ t, o.dst = some t → n.lo ≤ t ∧ t < n.n := fun hj t ht => hn t (opWrites_mem hj ht)
  intro f
  induction f with
  | zero =>
    intro L h ρ a w _ hf hk _ hd
    simp only [dwR] at hd
    split at hd
    · rename_i hr; exact ⟨hr, hK a ρ w hk hf hd⟩
    · exact hd.elim
  | succ f ih =>
    intro L h ρ a w hcl hf hk ht hd
    simp only [dwR] at hd
    split at hd
    · rename_i i hpick
      have hmem := pickFirst_mem hpick
      split at hd
      · rename_i o hi hfree
        obtain ⟨v, hKv, hy⟩ := takeW_yields (ops := ops) hf hd
        have hf' : Fits n (a.put o.dst v) (ρ.put o.dst v) := hf.put (hdst hi) v
        rcases hy with ⟨hkind, hy⟩ | ⟨hkind, hy, hnow⟩
        · simp only [holdsH, hkind] at hKv
          have H := ih _ _ _ _ _ (hcl.add hmem) hf' (hput v hi hk) ht hKv
          refine wpAnyTI_first (φ := fun _ => True) hi (hnd _ _ hi) hnd (Region.noSelect_spec hs) (fun c a w h => (hQ _ _ _).2 (PZ.less (fun t ht => (hdst hi t ht).1) ((hQ _ _ _).1 h))) hL f L _ a w hcl (Region.free_spec hi hfree) hmem (fun w _ => hy w) trivial ht ?_
          exact wpAnyTI_top H
        · simp only [holdsH, hkind] at hKv
          have ht' : ∀ p ∈ trkOf P ((i, guardB ops o ρ, execE ρ o, v) :: h), p.2 w := by
            intro p hp
            rcases List.mem_cons.1 (show p ∈ (i, fun w => hkp (guardB ops o ρ) ((execE ρ o).run P w = .ok (.value v) w)) :: trkOf P h from hp) with rfl | hp
            · exact hnow
            · exact ht p hp
          have H := ih _ _ _ _ _ (hcl.add hmem) hf' (hput v hi hk) ht' hKv
          exact wpAnyTI_first (φ := fun w => hkp (guardB ops o ρ) ((execE ρ o).run P w = .ok (.value v) w)) hi (hnd _ _ hi) hnd (Region.noSelect_spec hs) (fun c a w h => (hQ _ _ _).2 (PZ.less (fun t ht => (hdst hi t ht).1) ((hQ _ _ _).1 h))) hL f L _ a w hcl (Region.free_spec hi hfree) hmem hy hnow ht H
      · exact hd.elim
    · split at hd
      · rename_i hr
        refine ⟨fun _ => hK a ρ w hk hf hd, fun i hi => ?_⟩
        rw [hr] at hi; cases hi
      · rename_i js hne
        refine ⟨fun h0 => absurd h0 hne, fun j hj => ?_⟩
        have hdj := allL_mem hd j hj
        obtain ⟨_, o, hoj, _⟩ := mem_ready.1 hj
        simp only [hoj] at hdj
        have hgo : ∀ v w', (heldOk P ops j w' h ∧ dwR P ops f (L.setIfInBounds j true) (dropH ops j h) (ρ.put o.dst v) w' K) →
            (∀ p ∈ dropT ops j (trkOf P h), p.2 w') ∧ wpAnyTI rd P ops Q f (L.setIfInBounds j true) (dropT ops j (trkOf P h)) (a.put o.dst v) w' := by
          intro v w' ⟨hho, hdw⟩
          rw [trkOf_drop]
          have h1 := heldOk_all j w' h hho
          exact ⟨h1, ih _ _ _ _ _ (hcl.add hj) (hf.put (hdst hoj) v) (hput v hoj hk) h1 hdw⟩
        unfold Go.wpOpIn
        simp only [hoj]
        have hw := wanted_eq (ops := ops) hf o
        cases hg : o.guard with
        | none =>
          simp only [guardB, hg] at hw
          simp only [Option.getD_none] at hw
          rw [if_pos hw]
          exact pY_wp hf (hnd _ _ hoj) (fun c w h => (hQ _ _ _).2 h) (opR_none hg hdj) hgo
        | some g =>
          obtain ⟨k, want⟩ := g
          simp only [guardB, hg] at hw
          simp only [Option.getD_some] at hw
          simp only [opR, hg, pGd] at hdj
          rw [hw]
          split
          · rename_i hy
            rw [if_pos hy] at hdj
            exact pY_wp hf (hnd _ _ hoj) (fun c w h => (hQ _ _ _).2 h) (pX_up hdj) hgo
          · rename_i hy
            rw [if_neg hy] at hdj
            exact ⟨fun _ _ => trivial, hgo _ _ hdj⟩

theorem dwSR_any [Pan] {n : Frm} (hs : Region.noSelect ops = true) (hnd : ∀ (j : Nat) (o : Oper), ops[j]? = some o → notDf o = true) (hn : ∀ t ∈ opWrites ops.toList, n.lo ≤ t ∧ t < n.n) (hb : ∀ (j : Nat) (o : Oper), ops[j]? = some o → ∀ e ∈ o.after, Region.binds .any e = true → e.on < ops.size)
    {Q : Exit → Act → World → Prop} (hQ : ∀ c a w, Q (.panic c) a w ↔ PZ n a c w) (hL : ¬ LetsOut Q) (a₀ : Act) {K : Env → World → Prop}
    (hK : ∀ a' ρ' w', (∀ t, t ∉ opWrites ops.toList → a'.tmps.getD t undef = a₀.tmps.getD t undef) → Fits n a' ρ' → K ρ' w' → Q .normal a' w') :
    ∀ (s : Scr) (M : Nat) (L : Array Bool) (h : Held) (ρ : Env) (a : Act) (w : World), RelM ops.size M L → okS ops ops.toList ops.size s M = true → Clo ops L → Fits n a ρ → (∀ t, t ∉ opWrites ops.toList → a.tmps.getD t undef = a₀.tmps.getD t undef) →
      (∀ p ∈ trkOf P h, p.2 w) → dwSR P ops ops.toList s h ρ w K → wpAnyTI rd P ops Q s.length L (trkOf P h) a w := by
  have hput : ∀ {a : Act} {j : Nat} {o : Oper} (v : Value), ops[j]? = some o → (∀ t, t ∉ opWrites ops.toList → a.tmps.getD t undef = a₀.tmps.getD t undef) →
      (∀ t, t ∉ opWrites ops.toList → (a.put o.dst v).tmps.getD t undef = a₀.tmps.getD t undef) := by
    intro a j o v hj hk t ht
    rw [← hk t ht]
    cases hd : o.dst with
    | none => rfl
    | some d =>
      have hne : d ≠ t := fun e => ht (e ▸ opWrites_mem hj hd)
      simp only [Act.put, Array.getD_eq_getD_getElem?, Array.getElem?_setIfInBounds]
      rw [if_neg hne]
  have hdst : ∀ {j : Nat} {o : Oper}, ops[j]? = some o → ∀ t, o.dst = some t → n.lo ≤ t ∧ t < n.n := fun hj t ht => hn t (opWrites_mem hj ht)
  intro s
  induction s with
  | nil =>
    intro M L h ρ a w hrel hok _ hf hk _ hd
    refine ⟨?_, hK a ρ w hk hf hd⟩
    simp only [okS] at hok
    refine List.eq_nil_iff_forall_not_mem.2 fun j hj => ?_
    obtain ⟨h0, o, ho, _⟩ := mem_ready.1 hj
    have hlt := (Array.getElem?_eq_some_iff.1 ho).1
    rw [hrel.getD hlt true, belowB_spec hok j hlt] at h0
    cases h0
  | cons p r ih =>
    obtain ⟨i, M'⟩ := p
    intro M L h ρ a w hrel hok hcl hf hk ht hd
    simp only [okS, Bool.and_eq_true] at hok
    obtain ⟨⟨⟨hM, hrdy⟩, hcase⟩, hok'⟩ := hok
    have hM := Nat.eq_of_beq_eq_true hM
    subst hM
    simp only [dwSR] at hd
    rw [nthO_eq, Array.getElem?_toList] at hcase hd
    cases hi : ops[i]? with
    | none => rw [hi] at hcase; cases hcase
    | some o =>
      rw [hi] at hcase hd
      have hlt := (Array.getElem?_eq_some_iff.1 hi).1
      have hmem := (readyM_iff hrel hb i hlt).1 hrdy
      have hrel' := hrel.set i hlt
      cases hkd : Nat.blt (kindOf o.op) 2 with
      | true =>
        simp only [hkd] at hcase hd
        obtain ⟨v, hKv, hy⟩ := takeW_yields (ops := ops) hf hd
        have hf' : Fits n (a.put o.dst v) (ρ.put o.dst v) := hf.put (hdst hi) v
        have hfree : ∀ j oj, ops[j]? = some oj → j ≠ i → L.getD j true = false → (∀ e ∈ oj.after, Region.binds .any e = true → e.on ≠ i) → o.apart ops oj = true := by
          intro j oj hj hne hun hno
          have hjlt := (Array.getElem?_eq_some_iff.1 hj).1
          simp only [freeM, nthO_eq, Array.getElem?_toList, hi] at hcase
          have := belowB_spec hcase j hjlt
          simp only [hj, Bool.or_eq_true] at this
          rcases this with (h1 | h1) | h1 | h1
          · exact absurd (Nat.eq_of_beq_eq_true h1) hne
          · rw [hrel.getD hjlt true] at hun; rw [hun] at h1; cases h1
          · obtain ⟨e, he, hbe⟩ := List.any_eq_true.1 h1
            simp only [Bool.and_eq_true] at hbe
            exact absurd (Nat.eq_of_beq_eq_true hbe.2) (hno e (by simpa using he) hbe.1)
          · exact h1
        rcases hy with ⟨hkind, hy⟩ | ⟨hkind, hy, hnow⟩
        · simp only [holdsH, hkind] at hKv
          have H := ih _ _ _ _ _ _ hrel' hok' (hcl.add hmem) hf' (hput v hi hk) ht hKv
          refine wpAnyTI_first (φ := fun _ => True) hi (hnd _ _ hi) hnd (Region.noSelect_spec hs) (fun c a w h => (hQ _ _ _).2 (PZ.less (fun t ht => (hdst hi t ht).1) ((hQ _ _ _).1 h))) hL _ L _ a w hcl hfree hmem (fun w _ => hy w) trivial ht ?_
          exact wpAnyTI_top H
        · simp only [holdsH, hkind] at hKv
          have ht' : ∀ p ∈ trkOf P ((i, guardB ops o ρ, execE ρ o, v) :: h), p.2 w := by
            intro p hp
            rcases List.mem_cons.1 (show p ∈ (i, fun w => hkp (guardB ops o ρ) ((execE ρ o).run P w = .ok (.value v) w)) :: trkOf P h from hp) with rfl | hp
            · exact hnow
            · exact ht p hp
          have H := ih _ _ _ _ _ _ hrel' hok' (hcl.add hmem) hf' (hput v hi hk) ht' hKv
          exact wpAnyTI_first (φ := fun w => hkp (guardB ops o ρ) ((execE ρ o).run P w = .ok (.value v) w)) hi (hnd _ _ hi) hnd (Region.noSelect_spec hs) (fun c a w h => (hQ _ _ _).2 (PZ.less (fun t ht => (hdst hi t ht).1) ((hQ _ _ _).1 h))) hL _ L _ a w hcl hfree hmem hy hnow ht H
      | false =>
        simp only [hkd] at hcase hd
        refine ⟨fun h0 => (by rw [h0] at hmem; cases hmem), fun j hj => ?_⟩
        have hji : j = i := by
          obtain ⟨_, oj, hoj, _⟩ := mem_ready.1 hj
          have hjlt := (Array.getElem?_eq_some_iff.1 hoj).1
          have := belowB_spec hcase j hjlt
          simp only [Bool.or_eq_true, Bool.not_eq_true'] at this
          rcases this with h1 | h1
          · exact Nat.eq_of_beq_eq_true h1
          · rw [(readyM_iff hrel hb j hjlt).2 hj] at h1; cases h1
        subst hji
        have hgo : ∀ v w', (heldOk P ops j w' h ∧ dwSR P ops ops.toList r (dropH ops j h) (ρ.put o.dst v) w' K) →
            (∀ p ∈ dropT ops j (trkOf P h), p.2 w') ∧ wpAnyTI rd P ops Q r.length (L.setIfInBounds j true) (dropT ops j (trkOf P h)) (a.put o.dst v) w' := by
          intro v w' ⟨hho, hdw⟩
          rw [trkOf_drop]
          have h1 := heldOk_all j w' h hho
          exact ⟨h1, ih _ _ _ _ _ _ hrel' hok' (hcl.add hj) (hf.put (hdst hi) v) (hput v hi hk) h1 hdw⟩
        unfold Go.wpOpIn
        simp only [hi]
        have hw := wanted_eq (ops := ops) hf o
        cases hg : o.guard with
        | none =>
          simp only [guardB, hg] at hw
          simp only [Option.getD_none] at hw
          rw [if_pos hw]
          exact pY_wp hf (hnd _ _ hi) (fun c w h => (hQ _ _ _).2 h) (opR_none hg hd) hgo
        | some g =>
          obtain ⟨k, want⟩ := g
          simp only [guardB, hg] at hw
          simp only [Option.getD_some] at hw
          simp only [opR, hg, pGd] at hd
          rw [hw]
          split
          · rename_i hy
            rw [if_pos hy] at hd
            exact pY_wp hf (hnd _ _ hi) (fun c w h => (hQ _ _ _).2 h) (pX_up hd) hgo
          · rename_i hy
            rw [if_neg hy] at hd
            exact ⟨fun _ _ => trivial, hgo _ _ hd⟩
end

end Go.Proofs.YtikmogfhhggafaaGreatDoor

namespace Go.Proofs.YtikmogfhhggafaaGreatDoor
open Go

abbrev PR := Exit → Env → List Nat → World → Prop

abbrev thenR (next : Env → List Nat → World → Prop) (Q : PR) : PR
  | .normal, ρ, ms, w => next ρ ms w
  | e, ρ, ms, w => Q e ρ ms w
abbrev inBlockR (id : Nat) (Q : PR) : PR
  | .exit k, ρ, ms, w => if k = id then Q .normal ρ ms w else Q (.exit k) ρ ms w
  | e, ρ, ms, w => Q e ρ ms w
abbrev loopR (n : Nat) (I : List Nat → PT n) (m : MT n) (live : List Nat) (k : Nat) (Q : PR) : PR
  | .normal, ρ, ms, w => apP n (I ms) (live.map ρ) w ∧ apM n m (live.map ρ) w < k
  | e, ρ, ms, w => Q e ρ ms w
def cutR (x : PR → Prop) (y : Env → List Nat → World → Prop) (live : List Nat) (mods : Nat) (Q : PR) (ρ : Env) : Prop :=
  ∃ I : List Nat → PT live.length, x (thenR (fun ρ' ms' w' => apP live.length (I ms') (live.map ρ') w') Q) ∧
    ∀ j : Env, allV live.length fun vs => ∀ ms' w', apP live.length (I ms') vs w' → y (mkE ρ mods j live vs) ms' w'

def nthV : List Value → Nat → Value
  | [], _ => undef
  | v :: _, 0 => v
  | _ :: r, n + 1 => nthV r n
def putsE (ρ : Env) : List Nat → Nat → List Value → Env
  | p :: ps, i, vs => putsE (ρ.put (some p) (nthV vs i)) ps (i + 1) vs
  | [], _, _ => ρ
def exitsOf : Code → List Nat
  | .exit id => [id]
  | .seq x y => exitsOf x ++ exitsOf y
  | .cond _ x y => exitsOf x ++ exitsOf y
  | .block _ c => exitsOf c
  | .loop c => exitsOf c
  | .rangeFunc _ _ _ c => exitsOf c
  | _ => []

def mkD (r : Nat) : Deferred := { target := .collected r, args := #[] }
def busyOf (r : Loop) : Loop := { r with state := .busy }
def leftBy (r : Loop) (c : Code) : Loop := { r with state := .done, pending := some c }
def spent (r : Loop) : Loop := { r with state := .exhausted }
def bgW (l : Nat) (rc : Loop) (w : World) (K : World → Prop) : Prop := w.heap[l]? = some (.loop rc) ∧ K (w.putObj l (.loop (busyOf rc)))
def enW (l : Nat) (rc : Loop) (c : Option Code) (K : Value → World → Prop) (w : World) : Prop :=
  w.heap[l]? = some (.loop (busyOf rc)) ∧ match c with
    | none => K (.bool true) (w.putObj l (.loop rc))
    | some c => K (.bool false) (w.putObj l (.loop (leftBy rc c)))
abbrev rndQ (l : Nat) (rc : Loop) (K : Value → World → Prop) : PR
  | .normal, _, _, w => enW l rc none K w
  | .ret, _, _, w => enW l rc (some .ret) K w
  | .exit id, _, _, w => enW l rc (some (.exit id)) K w
  | _, _, _, _ => False

abbrev LX := List (Nat × (List Nat → World → Prop))
def jx : LX → Nat → List Nat → World → Prop
  | [], _, _, _ => False
  | (k, q) :: r, id, ms, w => match Nat.beq k id with
    | true => q ms w
    | false => jx r id ms w
def jmpW (l : Nat) (ms : List Nat) (N R : List Nat → World → Prop) (X : LX) (w : World) : Prop :=
  ∃ rc : Loop, w.heap[l]? = some (.loop rc) ∧ rc.state ≠ .busy ∧ match rc.pending with
    | none => N ms (w.putObj l (.loop (spent rc)))
    | some .ret => R ms (w.putObj l (.loop (spent rc)))
    | some (.exit id) => jx X id ms (w.putObj l (.loop (spent rc)))
    | _ => False
def pE (P : Program) (m : Sem Next) (w : World) (K : Value → World → Prop) : Prop := ∃ f args, m.run P w = .ok (.enter f args) w ∧ Calls P f args w (@retP Pan.no K)

def rfB (P : Program) (ms : List Nat) (l : Nat) (rc : Loop) (w : World) (g : Value) (np : Nat) (B : Nat → Loop → List Value → World → (Value → World → Prop) → Prop) (N R : List Nat → World → Prop) (X : LX) : Prop :=
  (∀ (Z : Pan) (args : List Value) (w' : World) (K : Value → World → Prop), args.length = np → w'.heap[l]? = some (.loop rc) → B l rc args w' K → @pY Z P (oCallV (.func (.yield l) #[] #[]) args) w' K) →
  pE P (oCallV g [.func (.yield l) #[] #[]]) w fun _ w₂ => jmpW l ms N R X w₂

def rfW (P : Program) (rd : Option Nat) (ms : List Nat) (w : World) (g : Value) (np : Nat) (B : Nat → Loop → List Value → World → (Value → World → Prop) → Prop) (N R : List Nat → World → Prop) (X : LX) : Prop :=
  match rd with
  | none => ∀ rc : Loop, rc.state = .ready → rc.pending = none → rfB P (w.heap.size :: ms) (w.heap.size + 1) rc ((w.alloc (.deferred (some []))).alloc (.loop rc)) g np B N R X
  | some l₀ => (∃ r, w.heap[l₀]? = some (.loop r)) ∧ ∀ rc : Loop, rc.state = .ready → rc.pending = none → rfB P ms w.heap.size rc (w.alloc (.loop rc)) g np B N R X

def cwR (P : Program) (H : Hints) : Code → Option Nat → PR → Env → List Nat → World → Prop
  | .skip, _, Q, ρ, ms, w => Q .normal ρ ms w
  | .seq x y, rd, Q, ρ, ms, w => match (firstRg y).bind H.cut with
    | none => cwR P H x rd (thenR (fun ρ' ms' w' => cwR P H y rd Q ρ' ms' w') Q) ρ ms w
    | some (live, mods) => cutR (fun Q' => cwR P H x rd Q' ρ ms w) (fun ρ' ms' w' => cwR P H y rd Q ρ' ms' w') live mods Q ρ
  | .region id ops b, _, Q, ρ, ms, w => match b with
    | false => @rgR Pan.no P ops ops.toList ρ w fun ρ' w' => Q .normal ρ' ms w'
    | true => pDr w fun w => match H.order id with
      | [] => @dwR Pan.no P ops ops.size (Array.replicate ops.size false) [] ρ w fun ρ' w' => Q .normal ρ' ms w'
      | s => @dwSR Pan.no P ops ops.toList s [] ρ w fun ρ' w' => Q .normal ρ' ms w'
  | .cond c x y, rd, Q, ρ, ms, w => pIf (ev ρ c) (cwR P H x rd Q ρ ms w) (cwR P H y rd Q ρ ms w)
  | .block id c, rd, Q, ρ, ms, w => cwR P H c rd (inBlockR id Q) ρ ms w
  | .loop c, rd, Q, ρ, ms, w => match (firstRg c).map H.loop with
    | some (live, mods) => ∃ (I : List Nat → PT live.length) (m : MT live.length), apP live.length (I ms) (live.map ρ) w ∧
      ∀ j : Env, allV live.length fun vs => ∀ ms' w', apP live.length (I ms') vs w' →
        cwR P H c rd (loopR live.length I m live (apM live.length m vs w') Q) (mkE ρ mods j live vs) ms' w'
    | none => False
  | .rangeFunc g ps assign body, rd, Q, ρ, ms, w => rfW P rd ms w (ev ρ g) ps.toList.length
      (fun l rc args w K => cwR P H assign (some l) (thenR (fun ρ' ms' w' => bgW l rc w' fun w'' => cwR P H body (some l) (rndQ l rc K) ρ' ms' w'') (fun _ _ _ _ => False)) (putsE ρ ps.toList 0 args) [] w)
      (Q .normal ρ) (Q .ret ρ) ((exitsOf body).map fun id => (id, Q (.exit id) ρ))
  | .exit id, _, Q, ρ, ms, w => Q (.exit id) ρ ms w
  | .ret, _, Q, ρ, ms, w => Q .ret ρ ms w
  | _, _, _, _, _, _ => False

def servedR (H : Hints) (n : Nat) : Code → Bool
  | .skip | .exit _ | .ret => true
  | .seq x y => servedR H n x && servedR H n y && (match (firstRg y).bind H.cut with
    | none => true
    | some (_, mods) => (writes x).all fun t => mods.testBit t)
  | .region id ops b => ((opWrites ops.toList).all fun t => Nat.blt t n) && (ops.toList.all notDf) && match b with
    | false => true
    | true => Region.noSelect ops && (match H.order id with
      | [] => true
      | s => okS ops ops.toList ops.toList.length s 0 && Nat.beq s.length ops.toList.length && (ops.toList.all fun o => o.after.toList.all fun e => Nat.blt e.on ops.toList.length))
  | .cond _ x y => servedR H n x && servedR H n y
  | .block _ c => servedR H n c
  | .loop c => servedR H n c && (match (firstRg c).map H.loop with
    | some (_, mods) => (writes c).all fun t => mods.testBit t
    | none => false)
  | .rangeFunc _ ps assign body => servedR H n assign && servedR H n body && ps.toList.all fun t => Nat.blt t n
  | _ => false

abbrev FrmR (n : Nat) (ms : List Nat) : Frm := ⟨n, 0, ms.map mkD, fun _ => undef⟩

def UpR (n : Nat) (a : Act) (ws : List Nat) (Q : PR) : Exit → Act → World → Prop
  | .panic _, _, _ => False
  | .outgrown, _, _ => False
  | .goto _, _, _ => False
  | e, a', w => (∀ t, t ∉ ws → a'.tmps.getD t undef = a.tmps.getD t undef) ∧ ∃ ρ' ms', Fits (FrmR n ms') a' ρ' ∧ Q e ρ' ms' w

theorem UpR.mono {n : Nat} {a : Act} {ws ws' : List Nat} {Q : PR} (hw : ∀ t ∈ ws, t ∈ ws') : ∀ e a' w, UpR n a ws Q e a' w → UpR n a ws' Q e a' w := by
  intro e a' w h
  cases e <;> first | exact h | exact ⟨fun t ht => h.1 t fun hm => ht (hw t hm), h.2⟩
theorem UpR.next {n : Nat} {a a₁ : Act} {ws ws' : List Nat} {Q : PR} (hk : ∀ t, t ∉ ws → a₁.tmps.getD t undef = a.tmps.getD t undef) : ∀ e a' w, UpR n a₁ ws' Q e a' w → UpR n a (ws ++ ws') Q e a' w := by
  intro e a' w h
  have key : ∀ t, t ∉ ws ++ ws' → (∀ t, t ∉ ws' → a'.tmps.getD t undef = a₁.tmps.getD t undef) → a'.tmps.getD t undef = a.tmps.getD t undef := by
    intro t ht h1
    simp only [List.mem_append, not_or] at ht
    rw [h1 t ht.2, hk t ht.1]
  cases e <;> first | exact h | exact ⟨fun t ht => key t ht h.1, h.2⟩

theorem UpR.letsOut {n : Nat} {a : Act} {ws : List Nat} {Q : PR} : ¬ LetsOut (UpR n a ws Q) := fun ⟨_, _, h⟩ => h

theorem nthV_app (v : Value) (r : List Value) : ∀ pre : List Value, nthV (pre ++ v :: r) pre.length = v
  | [] => rfl
  | u :: pre => nthV_app v r pre
theorem puts_fits {n : Nat} {ms : List Nat} : ∀ (ps : List Nat) (pre vs : List Value) {a : Act} {ρ : Env}, Fits (FrmR n ms) a ρ → (∀ p ∈ ps, p < n) → vs.length = ps.length →
    Fits (FrmR n ms) { a with tmps := (ps.zip vs).foldl (fun tmps (t, v) => tmps.setIfInBounds t v) a.tmps } (putsE ρ ps pre.length (pre ++ vs))
  | [], _, [], _, _, hf, _, _ => hf
  | p :: ps, pre, v :: vs, a, ρ, hf, h, hl => by
    have h1 := hf.put (d := some p) (fun t ht => by cases ht; exact ⟨Nat.zero_le _, h p List.mem_cons_self⟩) v
    have h2 := puts_fits ps (pre ++ [v]) vs h1 (fun q hq => h q (List.mem_cons_of_mem _ hq)) (by simpa using hl)
    simp only [putsE, nthV_app]
    simp only [List.length_append, List.length_singleton, List.append_assoc, List.singleton_append] at h2
    exact h2

theorem fits_round {n : Nat} {ms : List Nat} {a : Act} {ρ : Env} (hf : Fits (FrmR n ms) a ρ) : Fits (FrmR n []) { tmps := a.tmps, defers := [] } ρ := ⟨hf.size, rfl, hf.get, fun t ht => absurd ht (Nat.not_lt_zero t)⟩
theorem fits_more {n : Nat} {ms ms' : List Nat} {a : Act} {ρ : Env} (hf : Fits (FrmR n ms) a ρ) : Fits (FrmR n ms') { tmps := a.tmps, defers := ms'.map mkD } ρ := ⟨hf.size, rfl, hf.get, fun t ht => absurd ht (Nat.not_lt_zero t)⟩

theorem jx_get {X : LX} {id : Nat} {ms : List Nat} {w : World} (h : jx X id ms w) : ∃ q, (id, q) ∈ X ∧ q ms w := by
  induction X with
  | nil => exact h.elim
  | cons p r ih =>
    obtain ⟨k, q⟩ := p
    simp only [jx] at h
    cases e : Nat.beq k id with
    | true => rw [e] at h; rw [← Nat.eq_of_beq_eq_true e]; exact ⟨q, List.mem_cons_self, h⟩
    | false => rw [e] at h; obtain ⟨q', h1, h2⟩ := ih h; exact ⟨q', List.mem_cons_of_mem _ h1, h2⟩

theorem rfB_wp {P : Program} {n : Nat} {g : Operand} {ps : Array Tmp} {assign body : Code} {a : Act} {ρ : Env} {ms ms' : List Nat} {w₁ : World} {l : Nat} {rd : Option Nat} {fn : FuncId} {ws : List Nat} {Q : PR} {blk : Nat}
    {B : Nat → Loop → List Value → World → (Value → World → Prop) → Prop} (hf : Fits (FrmR n ms) a ρ)
    (hB : ∀ (args : List Value) (w' : World) (K : Value → World → Prop) (rc : Loop), args.length = ps.toList.length → rc = { state := .ready, pending := none, fn := fn, tmps := a.tmps, params := ps, assign := assign, body := body, defers := blk } → w'.heap[l]? = some (.loop rc) → B l rc args w' K →
      RoundIn (Fr none) 0 P l fn ((ps.zip args.toArray).foldl (fun tmps (t, a) => tmps.setIfInBounds t a) a.tmps) assign body w' (@retP Pan.no K))
    (hb : rfB P ms' l { state := .ready, pending := none, fn := fn, tmps := a.tmps, params := ps, assign := assign, body := body, defers := blk } w₁ (ev ρ g) ps.toList.length B (Q .normal ρ) (Q .ret ρ) ((exitsOf body).map fun id => (id, Q (.exit id) ρ))) :
    ∃ (d : Deferred) (f : FuncId) (args : Array Value) (w₂ : World), (resolve a.eval (rangeCall g l) 0).run P w₁ = .ok d w₁ ∧ (invoke d.target d.args).run P w₁ = .ok (.enter f args) w₂ ∧
      CallsIn (Fr rd) 0 P f args w₂ (rangePost (Fr rd) 0 P l (UpR n a ws Q) { tmps := a.tmps, defers := ms'.map mkD }) := by
  obtain ⟨f, args, hrun, hcall⟩ := hb fun Z args w' K hl hw hBB => by
    have hR := hB args w' K _ hl rfl hw hBB
    have hy : (oCallV (.func (.yield l) #[] #[]) args).run P w' = .ok (.round l fn ((ps.zip args.toArray).foldl (fun tmps (t, a) => tmps.setIfInBounds t a) a.tmps) assign body) w' := by
      have := run_yield (P := P) (args := args.toArray) hw (by simpa using hl)
      have e : oCallV (.func (.yield l) #[] #[]) args = Instr.yield l args.toArray := by
        simp only [oCallV, Deferred.ofValue, pure_bind, invoke, Array.empty_append, Array.append_empty]
      rw [e]; exact this
    unfold pY rY
    rw [hy]
    exact RoundIn.mono hR fun e w' he => by
      cases e with
      | returned v => exact he
      | panicked c => exact he.elim
      | outgrown => exact he.elim
  have e : (resolve a.eval (rangeCall g l) 0) = Deferred.ofValue (ev ρ g) #[.func (.yield l) #[] #[]] := by
    rw [hf.eval]
    simp [resolve, rangeCall, ev]
  unfold oCallV at hrun
  rw [Sem.run_bind] at hrun
  have hinv : ∀ (s : Value) (xs : Array Value) (d : Deferred) (w' : World), (Deferred.ofValue s xs).run P w₁ = .ok d w' → w' = w₁ := by
    intro s xs d w' h
    unfold Deferred.ofValue at h
    split at h <;> first | (cases h; rfl) | (simp [Sem.run, runtimePanic, stuck] at h) | skip
    all_goals (cases h)
  cases hd : (Deferred.ofValue (ev ρ g) #[.func (.yield l) #[] #[]]).run P w₁ with
  | halt x w' =>
    have hd' : (Deferred.ofValue (ev ρ g) ([Value.func (.yield l) #[] #[]] : List Value).toArray).run P w₁ = .halt x w' := hd
    rw [hd'] at hrun
    simp [Result.andThen] at hrun
  | ok d w' =>
    obtain rfl := hinv _ _ _ _ hd
    have hd' : (Deferred.ofValue (ev ρ g) ([Value.func (.yield l) #[] #[]] : List Value).toArray).run P w' = .ok d w' := hd
    rw [hd', Result.andThen_ok] at hrun
    refine ⟨d, f, args, w', by rw [e]; exact hd, hrun, Fr.calls (Calls.mono hcall fun e w₂ he => ?_)⟩
    cases e with
    | panicked c => exact he.elim
    | outgrown => exact he.elim
    | returned v =>
      obtain ⟨rc, hrc, hst, hp⟩ := he
      refine ⟨rc.pending, w₂.putObj l (.loop (spent rc)), run_endLoop hrc hst, ?_⟩
      generalize w₂.putObj l (.loop (spent rc)) = W at hp ⊢
      have hf2 : Fits (FrmR n ms') { tmps := a.tmps, defers := ms'.map mkD } ρ := fits_more hf
      cases hpd : rc.pending with
      | none => rw [hpd] at hp; exact ⟨fun _ _ => rfl, ρ, ms', hf2, hp⟩
      | some c =>
        rw [hpd] at hp
        cases c with
        | ret => exact wpIn_ret ⟨fun _ _ => rfl, ρ, ms', hf2, hp⟩
        | exit id =>
          obtain ⟨q, hq, hqq⟩ := jx_get hp
          obtain ⟨id', _, he⟩ := List.mem_map.1 hq
          cases he
          exact wpIn_exit ⟨fun _ _ => rfl, ρ, ms', hf2, hqq⟩
        | _ => exact hp.elim

theorem cwR_wp {P : Program} (hm : P.follows .mixedOrders = true) {H : Hints} {n : Nat} (c : Code) : ∀ {rd : Option Nat} {Q : PR} {ρ : Env} {ms : List Nat} {w : World} {a : Act},
    servedR H n c = true → Fits (FrmR n ms) a ρ → cwR P H c rd Q ρ ms w → c.wpIn (Fr rd) 0 P (UpR n a (writes c) Q) a w := by
  induction c with
  | skip => intro rd Q ρ ms w a _ hf h; exact wpIn_skip ⟨fun _ _ => rfl, ρ, ms, hf, h⟩
  | exit id => intro rd Q ρ ms w a _ hf h; exact wpIn_exit ⟨fun _ _ => rfl, ρ, ms, hf, h⟩
  | ret => intro rd Q ρ ms w a _ hf h; exact wpIn_ret ⟨fun _ _ => rfl, ρ, ms, hf, h⟩
  | region id ops draw =>
    intro rd Q ρ ms w a hs hf h
    simp only [servedR, Bool.and_eq_true] at hs
    obtain ⟨⟨hs1, hnd⟩, hs2⟩ := hs
    simp only [List.all_eq_true] at hs1 hnd
    have hndj : ∀ (j : Nat) (o : Oper), ops[j]? = some o → notDf o = true := fun j o ho => hnd o (by simpa using Array.mem_of_getElem? ho)
    have hlt : ∀ t ∈ opWrites ops.toList, (FrmR n ms).lo ≤ t ∧ t < (FrmR n ms).n := fun t ht => ⟨Nat.zero_le _, by simpa [Nat.blt_eq] using hs1 t ht⟩
    cases draw with
    | true =>
      simp only [Bool.and_eq_true] at hs2
      obtain ⟨hs2, hs3⟩ := hs2
      simp only [cwR, pDr] at h
      refine wpIn_region_any hm (wpAnyIn_of_T _ _ [] _ _ ?_)
      have hcl : Clo ops (Array.replicate ops.size false) := by
        intro j o ho hl
        have hlt := (Array.getElem?_eq_some_iff.1 ho).1
        simp [hlt] at hl
      have hq : ∀ c a' w, UpR n a (writes (.region id ops true)) Q (.panic c) a' w ↔ @PZ Pan.no (FrmR n ms) a' c w := fun c a' w => ⟨fun h => h.elim, fun h => h.z⟩
      cases ho : H.order id with
      | nil =>
        rw [ho] at h
        exact dwR_any (P := P) (rd := rd) hs2 hndj hlt (Q := UpR n a (writes (.region id ops true)) Q) hq UpR.letsOut a
          (fun a' ρ' w' hk hf' hq => ⟨hk, ρ', ms, hf', hq⟩) ops.size _ [] ρ a _ hcl hf (fun _ _ => rfl) (fun p hp => by cases hp) h
      | cons p r =>
        rw [ho] at h hs3
        simp only [Bool.and_eq_true] at hs3
        obtain ⟨⟨hok, hlen⟩, hed⟩ := hs3
        have hlen := Nat.eq_of_beq_eq_true hlen
        simp only [Array.length_toList] at hok hlen hed
        have hb : ∀ (j : Nat) (o : Oper), ops[j]? = some o → ∀ e ∈ o.after, Region.binds .any e = true → e.on < ops.size := by
          intro j o hj e he _
          simp only [List.all_eq_true] at hed
          have := hed o (by simpa using Array.mem_of_getElem? hj) e (by simpa using he)
          simpa [Nat.blt_eq] using this
        have hrel : RelM ops.size 0 (Array.replicate ops.size false) := ⟨by simp, fun j hj => by simp [hj]⟩
        have H := dwSR_any (P := P) (rd := rd) hs2 hndj hlt hb (Q := UpR n a (writes (.region id ops true)) Q) hq UpR.letsOut a
          (fun a' ρ' w' hk hf' hq => ⟨hk, ρ', ms, hf', hq⟩) (p :: r) 0 _ [] ρ a _ hrel hok hcl hf (fun _ _ => rfl) (fun p hp => by cases hp) h
        rw [hlen] at H
        exact H
    | false =>
      exact wpIn_region_list (rgR_wp (n := FrmR n ms) ops.toList (fun c a w h => h.z) hnd hlt hf h fun a' ρ' w' hk hf' hq => ⟨hk, ρ', ms, hf', hq⟩)
  | seq x y ihx ihy =>
    intro rd Q ρ ms w a hs hf h
    simp only [servedR, Bool.and_eq_true] at hs
    simp only [cwR] at h
    refine wpIn_seq ?_
    have fin : ∀ {Q' : Env → List Nat → World → Prop} e a' w, UpR n a (writes x) (thenR Q' Q) e a' w → e ≠ .normal → Exit.then (y.wpIn (Fr rd) 0 P (UpR n a (writes (.seq x y)) Q)) (UpR n a (writes (.seq x y)) Q) e a' w := by
      intro Q' e a' w hq hne
      have hw : ∀ t ∈ writes x, t ∈ writes (.seq x y) := by simp [writes]; intro t ht; exact .inl ht
      cases e with
      | normal => exact absurd rfl hne
      | panic c => exact hq.elim
      | outgrown => exact hq.elim
      | goto l => exact hq.elim
      | exit id => exact ⟨fun t ht => hq.1 t fun hm => ht (hw t hm), hq.2⟩
      | ret => exact ⟨fun t ht => hq.1 t fun hm => ht (hw t hm), hq.2⟩
    split at h
    · have hs := hs.1
      refine wpIn_mono (ihx hs.1 hf h) fun e a' w' hq => ?_
      cases e with
      | normal =>
        obtain ⟨hk, ρ', ms', hf', hq'⟩ := hq
        exact wpIn_mono (ihy hs.2 hf' hq') (UpR.next hk)
      | _ => exact fin _ _ _ hq (by simp)
    · rename_i live mods hcut
      have hmods : ∀ t, mods.testBit t = false → t ∉ writes x := by
        have := hs.2
        rw [hcut] at this
        simp only [List.all_eq_true] at this
        intro t ht hm
        rw [this t hm] at ht; cases ht
      have hs := hs.1
      obtain ⟨I, hx, hy⟩ := h
      refine wpIn_mono (ihx hs.1 hf hx) fun e a' w' hq => ?_
      cases e with
      | normal =>
        obtain ⟨hk, ρ', ms', hf', hq'⟩ := hq
        have hy' := allV_get (hy ρ') (live.map ρ') (by simp) ms' w' hq'
        have hm : mkE ρ mods ρ' live (live.map ρ') = ρ' := mkE_self ρ ρ' _ (fun t ht => by rw [← hf'.get t, hk t (hmods t ht), hf.get t]) live
        dsimp only at hy'
        rw [hm] at hy'
        exact wpIn_mono (ihy hs.2 hf' hy') (UpR.next hk)
      | _ => exact fin _ _ _ hq (by simp)
  | cond c x y ihx ihy =>
    intro rd Q ρ ms w a hs hf h
    simp only [servedR, Bool.and_eq_true] at hs
    simp only [cwR] at h
    have hc : a.eval c = ev ρ c := by rw [hf.eval]
    unfold pIf at h
    split at h
    · rename_i hv
      exact wpIn_cond_true (hc.trans hv) (wpIn_mono (ihx hs.1 hf h) (UpR.mono (by simp [writes]; intro t ht; exact .inl ht)))
    · rename_i hv
      exact wpIn_cond_false (hc.trans hv) (wpIn_mono (ihy hs.2 hf h) (UpR.mono (by simp [writes]; intro t ht; exact .inr ht)))
    · exact h.elim
  | block id c ih =>
    intro rd Q ρ ms w a hs hf h
    simp only [servedR] at hs
    simp only [cwR] at h
    refine wpIn_block (wpIn_mono (ih hs hf h) fun e a' w' hq => ?_)
    cases e with
    | panic c => exact hq.elim
    | outgrown => exact hq.elim
    | goto l => exact hq.elim
    | normal => exact hq
    | ret => exact hq
    | exit k =>
      obtain ⟨hk, ρ', ms', hf', hq'⟩ := hq
      simp only [inBlockR] at hq'
      simp only [Exit.inBlock]
      split
      · rename_i e; rw [if_pos e] at hq'; exact ⟨hk, ρ', ms', hf', hq'⟩
      · rename_i e; rw [if_neg e] at hq'; exact ⟨hk, ρ', ms', hf', hq'⟩
  | loop c ih =>
    intro rd Q ρ ms w a hs hf h
    simp only [servedR, Bool.and_eq_true] at hs
    simp only [cwR] at h
    obtain ⟨hs, hmm⟩ := hs
    split at h
    rotate_left
    · exact h.elim
    rename_i live mods hlm
    rw [hlm] at hmm
    simp only [List.all_eq_true] at hmm
    have hmods : ∀ t, mods.testBit t = false → t ∉ writes c := by
      intro t ht hm
      rw [hmm t hm] at ht; cases ht
    obtain ⟨I, m, h0, hstep⟩ := h
    refine wpIn_loop (fun a' w' => (∀ t, t ∉ writes c → a'.tmps.getD t undef = a.tmps.getD t undef) ∧ a'.tmps.size = n ∧ ∃ ms', a'.defers = ms'.map mkD ∧ apP live.length (I ms') (live.map fun t => a'.tmps.getD t undef) w')
      (fun a' w' => apM live.length m (live.map fun t => a'.tmps.getD t undef) w') ⟨fun _ _ => rfl, hf.size, ms, hf.defers, ?_⟩ ?_
    · have e : (fun t => a.tmps.getD t undef) = ρ := funext hf.get
      rw [e]; exact h0
    · intro a₁ w₁ ⟨hk, hsz, ms₁, hdf, hI⟩
      have hf₁ : Fits (FrmR n ms₁) a₁ (fun t => a₁.tmps.getD t undef) := ⟨hsz, hdf, fun _ => rfl, fun t ht => absurd ht (Nat.not_lt_zero t)⟩
      have hs' := allV_get (hstep fun t => a₁.tmps.getD t undef) (live.map fun t => a₁.tmps.getD t undef) (by simp) ms₁ w₁ hI
      rw [mkE_self ρ _ _ (fun t ht => by rw [hk t (hmods t ht), hf.get t]) live] at hs'
      refine wpIn_mono (ih hs hf₁ hs') fun e a' w' hq => ?_
      cases e with
      | panic c => exact hq.elim
      | outgrown => exact hq.elim
      | goto l => exact hq.elim
      | normal =>
        obtain ⟨hk', ρ', ms', hf', hq'⟩ := hq
        have e : (fun t => a'.tmps.getD t undef) = ρ' := funext hf'.get
        refine ⟨⟨fun t ht => (hk' t ht).trans (hk t ht), hf'.size, ms', hf'.defers, ?_⟩, ?_⟩
        · rw [e]; exact hq'.1
        · rw [e]; exact hq'.2
      | exit k => exact ⟨fun t ht => (hq.1 t ht).trans (hk t ht), hq.2⟩
      | ret => exact ⟨fun t ht => (hq.1 t ht).trans (hk t ht), hq.2⟩
  | rangeFunc g ps assign body iha ihb =>
    intro rd Q ρ ms w a hs hf h
    simp only [servedR, Bool.and_eq_true, List.all_eq_true] at hs
    obtain ⟨⟨hs1, hs2⟩, hs3⟩ := hs
    simp only [cwR] at h
    have hps : ∀ p ∈ ps.toList, p < n := fun p hp => by simpa [Nat.blt_eq] using hs3 p hp
    -- a round, out of its body
    have round : ∀ (fn : FuncId) (blk l : Nat) (args : List Value) (w' : World) (K : Value → World → Prop) (rc : Loop), args.length = ps.toList.length → rc = { state := .ready, pending := none, fn := fn, tmps := a.tmps, params := ps, assign := assign, body := body, defers := blk } → w'.heap[l]? = some (.loop rc) →
        cwR P H assign (some l) (thenR (fun ρ' ms' w' => bgW l rc w' fun w'' => cwR P H body (some l) (rndQ l rc K) ρ' ms' w'') (fun _ _ _ _ => False)) (putsE ρ ps.toList 0 args) [] w' →
        RoundIn (Fr none) 0 P l fn ((ps.zip args.toArray).foldl (fun tmps (t, a) => tmps.setIfInBounds t a) a.tmps) assign body w' (@retP Pan.no K) := by
      intro fn blk l args w' K rc hl hrc hw hB
      have hf0 := puts_fits ps.toList [] args (fits_round hf) hps (by simpa using hl)
      have ez : (ps.zip args.toArray).foldl (fun tmps (t, a) => tmps.setIfInBounds t a) a.tmps = (ps.toList.zip args).foldl (fun tmps (t, a) => tmps.setIfInBounds t a) a.tmps := by
        rw [← Array.foldl_toList, Array.toList_zip]
      rw [ez]
      refine roundIn_of_wpIn (F := Fr none) trivial ?_
      refine wpIn_mono (iha (rd := some l) hs1 hf0 hB) fun e a' w₁ hq => ?_
      cases e with
      | panic c => exact hq.elim
      | outgrown => exact hq.elim
      | goto l => exact hq.elim
      | exit k => exact hq.2.choose_spec.choose_spec.2.elim
      | ret => exact hq.2.choose_spec.choose_spec.2.elim
      | normal =>
        obtain ⟨_, ρ', ms', hf', hb1, hb2⟩ := hq
        have hrdy : rc.state = .ready := by rw [hrc]
        refine ⟨_, run_beginRound hb1 hrdy, wpIn_mono (ihb (rd := some l) hs2 hf' hb2) fun e a'' w₂ hq => ?_⟩
        have hback : ({ busyOf rc with state := if (none : Option Code).isNone then .ready else .done, pending := none } : Loop) = rc := by rw [hrc]; rfl
        have hleft : ∀ c : Code, ({ busyOf rc with state := if (some c).isNone then .ready else .done, pending := some c } : Loop) = leftBy rc c := fun c => rfl
        cases e with
        | panic c => exact hq.elim
        | outgrown => exact hq.elim
        | goto l => exact hq.elim
        | normal =>
          obtain ⟨_, _, _, _, h1, h2⟩ := hq
          refine ⟨_, _, run_endRound none h1, ?_⟩
          rw [hback]; exact h2
        | ret =>
          obtain ⟨_, _, _, _, h1, h2⟩ := hq
          exact ⟨_, _, run_endRound (some .ret) h1, h2⟩
        | exit id =>
          obtain ⟨_, _, _, _, h1, h2⟩ := hq
          exact ⟨_, _, run_endRound (some (.exit id)) h1, h2⟩
    refine wpIn_rangeFunc fun fn _ => ?_
    unfold rfW at h
    cases rd with
    | none =>
      dsimp only at h
      have hb := h { state := .ready, pending := none, fn := fn, tmps := a.tmps, params := ps, assign := assign, body := body, defers := w.heap.size } rfl rfl
      obtain ⟨d, f, args, w₂, h1, h2, h3⟩ := rfB_wp (rd := none) (ws := writes (.rangeFunc g ps assign body)) hf (fun args w' K rc => round fn _ _ args w' K rc) hb
      refine ⟨_, _, _, d, _, f, args, w₂, run_enterLoop_outer fn a.tmps ps assign body, h1, fun _ _ => trivial, h2, Fr.deep _ _, ?_⟩
      have e : ([{ target := .collected w.heap.size, args := #[] }] : List Deferred) ++ a.defers = (w.heap.size :: ms).map mkD := by rw [hf.defers]; rfl
      rw [e]; exact h3
    | some l₀ =>
      dsimp only at h
      obtain ⟨⟨r, hr⟩, h⟩ := h
      have hb := h { state := .ready, pending := none, fn := fn, tmps := a.tmps, params := ps, assign := assign, body := body, defers := r.defers } rfl rfl
      obtain ⟨d, f, args, w₂, h1, h2, h3⟩ := rfB_wp (rd := some l₀) (ws := writes (.rangeFunc g ps assign body)) hf (fun args w' K rc => round fn _ _ args w' K rc) hb
      refine ⟨w.heap.size, [], _, d, _, f, args, w₂, ?_, h1, fun _ _ => trivial, h2, Fr.deep _ _, ?_⟩
      · unfold Instr.enterLoop
        simp only [Sem.run_bind, run_getLoop hr, run_newObj_alloc, Result.andThen, Sem.run_pure]
      · have e : ([] : List Deferred) ++ a.defers = ms.map mkD := by rw [hf.defers]; rfl
        rw [e]; exact h3
  | scope c => intro rd Q ρ ms w a hs; simp [servedR] at hs
  | label l => intro rd Q ρ ms w a hs; simp [servedR] at hs
  | goto l => intro rd Q ρ ms w a hs; simp [servedR] at hs
  | refuse s => intro rd Q ρ ms w a hs; simp [servedR] at hs

def mkW : List Nat → World → (World → Prop) → Prop
  | [], w, K => K w
  | r :: ms, w, K => w.heap[r]? = some (.deferred (some [])) ∧ mkW ms (w.putObj r (.deferred none)) K
abbrev endR (P : Program) (rs : List ResultVar) (K : Value → World → Prop) : PR
  | .normal, ρ, ms, w => mkW ms w fun w => @resW P rs [] ρ w K
  | .ret, ρ, ms, w => mkW ms w fun w => @resW P rs [] ρ w K
  | _, _, _, _ => False

theorem leavesM {P : Program} {fn : Func} {n : Nat} {ρ : Env} {K : Value → World → Prop} (ms : List Nat) : ∀ {a : Act} {w : World}, Fits (FrmR n ms) a ρ → mkW ms w (fun w => @resW P fn.results.toList [] ρ w K) →
    LeavesInM (Fr none) 0 P fn a.tmps (@retP Pan.no K) (ms.map mkD) .returning w := by
  induction ms with
  | nil =>
    intro a w hf h
    obtain ⟨vs, hr, hK⟩ := resW_run _ _ h
    exact ⟨_, results_one hf fn w P vs hr, by simpa [retP] using hK⟩
  | cons r ms ih =>
    intro a w hf h
    obtain ⟨h1, h2⟩ := h
    have hf2 : Fits (FrmR n ms) { tmps := a.tmps, defers := ms.map mkD } ρ := ⟨hf.size, rfl, hf.get, fun t ht => absurd ht (Nat.not_lt_zero t)⟩
    exact ⟨by simp, .inl ⟨r, _, rfl, run_takeDeferred h1, ih (a := { tmps := a.tmps, defers := ms.map mkD }) hf2 h2⟩⟩

theorem calls_of_cwR {P : Program} (hm : P.follows .mixedOrders = true) {H : Hints} {f : FuncId} {fn : Func} {c : Code} {args : List Value} {w : World} {K : Value → World → Prop}
    (hfn : P.funcs[f]? = some fn) (hb : fn.body = some c) (hs : servedR H fn.ntmps c = true) (ha : args.length ≤ fn.ntmps)
    (h : cwR P H c none (endR P fn.results.toList K) (argsE args) [] w) : Calls P f args.toArray w (@retP Pan.no K) := by
  refine (callsIn_wide (n := 0)).1 ?_
  refine callsIn_of_wp_marks (F := Fr none) hfn hb trivial ?_
  have hf : Fits (FrmR fn.ntmps []) { tmps := args.toArray ++ Array.replicate (fn.ntmps - args.toArray.size) undef, defers := [] } (argsE args) := fits_new fn.ntmps args ha
  refine wpIn_mono (cwR_wp hm c hs hf h) fun e a' w' hq => ?_
  cases e with
  | panic c => exact hq.elim
  | outgrown => exact hq.elim
  | goto l => exact hq.elim
  | exit id => exact hq.2.choose_spec.choose_spec.2.elim
  | normal =>
    obtain ⟨_, ρ', ms', hf', hq⟩ := hq
    show LeavesInM (Fr none) 0 P fn a'.tmps (@retP Pan.no K) a'.defers .returning w'
    rw [hf'.defers]
    exact leavesM ms' hf' hq
  | ret =>
    obtain ⟨_, ρ', ms', hf', hq⟩ := hq
    show LeavesInM (Fr none) 0 P fn a'.tmps (@retP Pan.no K) a'.defers .returning w'
    rw [hf'.defers]
    exact leavesM ms' hf' hq

end Go.Proofs.YtikmogfhhggafaaGreatDoor

namespace Go.Proofs.YtikmogfhhggafaaGreatDoor
open Go
set_option maxRecDepth 100000

def cdc_CutR.H : Hints := { cut := fun  | _ => none, loop := fun  | _ => ([], 0), order := fun  | _ => [] }
def cdc_CutR.F (x0 : Value) (x1 : Value) (w : World) (Q : Value → World → Prop) : Prop :=
 pN Tryz.prog (oBox 27 x1) w fun x3 w1 =>
 pN Tryz.prog (oLoad 27 x3) w1 fun x9 w2 =>
 pN Tryz.prog (oCall 87 [x9]) w2 fun x10 w3 =>
 pN Tryz.prog (oBin .neq 38 (.tmp 11) (.const (.int .i64 0)) x10 (.int .i64 0)) w3 fun x12 w4 =>
 pIf x12
 (mkW [] w4 fun w5 =>
 Q (.tuple #[(.slice none 0 0), x10]) w5)
 (pN Tryz.prog (oAlloc 46) w4 fun x7 w6 =>
 pN Tryz.prog (oLoad 27 x3) w6 fun x15 w7 =>
 pN Tryz.prog (oCall 103 [x0, x15]) w7 fun x16 w8 =>
 rfW Tryz.prog none [] w8 x16 1 (fun l1 rc1 as1 w9 K1 =>
 bgW l1 rc1 w9 fun w10 =>
 pN Tryz.prog (oLoad 46 x7) w10 fun x18 w12 =>
 pN Tryz.prog (oBs 46 1 [(0, (nthV as1 0))]) w12 fun x20 w13 =>
 pN Tryz.prog (oBi .append #[46, 46] 46 [false, false] [x18, x20]) w13 fun x21 w14 =>
 pN Tryz.prog (oStore 46 x7 x21) w14 fun _ w15 =>
 enW l1 rc1 none K1 w15)
 (fun mr1 w11 =>
 pN Tryz.prog (oLoad 46 x7) w11 fun x22 w16 =>
 mkW mr1 w16 fun w17 =>
 Q (.tuple #[x22, (.int .i64 0)]) w17)
 (fun mr1 w11 =>
 mkW mr1 w11 fun w18 =>
 Q (.tuple #[(.slice none 0 0), (.int .i64 0)]) w18)
 [])
noncomputable def cdc_CutR.c : Code := match Tryz.f63.body with | some c => c | none => .skip
theorem cdc_CutR.eq (x0 : Value) (x1 : Value) (w : World) (Q : Value → World → Prop) : cwR Tryz.prog cdc_CutR.H cdc_CutR.c none (endR Tryz.prog Tryz.f63.results.toList Q) (argsE [x0, x1]) [] w = cdc_CutR.F x0 x1 w Q := by kernel_rfl
theorem cdc_CutR.calls {x0 : Value} {x1 : Value} {w : World} {Q : Value → World → Prop} (h : cdc_CutR.F x0 x1 w Q) : Calls Tryz.prog 63 #[x0, x1] w (@retP Pan.no Q) :=
  calls_of_cwR (H := cdc_CutR.H) (c := cdc_CutR.c) (args := [x0, x1]) mixed Tryz.func63 (by kernel_rfl) (by kernel_rfl) (Nat.le_of_ble_eq_true (by kernel_rfl)) ((cdc_CutR.eq x0 x1 w Q).mpr h)

def cdc_ends_c1R.H : Hints := { cut := fun  | _ => none, loop := fun | 2 => ([5], 1073740000) | _ => ([], 0), order := fun  | _ => [] }
def cdc_ends_c1R.F (x0 : Value) (x1 : Value) (x2 : Value) (w : World) (Q : Value → World → Prop) : Prop :=
 pN Tryz.prog (oLoad 27 x1) w fun x8 w1 =>
 pN Tryz.prog (oBuild 230 [(0, x8)]) w1 fun x9 w2 =>
 pN Tryz.prog (oBox 230 x9) w2 fun x10 w3 =>
 ∃ (L2 : List Nat → Value → World → Prop) (m2 : Value → World → Nat),
 L2 [] (.int .i64 0) w3 ∧
 ∀ (_k2 : Env) (at5l2 : Value) (ms2 : List Nat) (w4 : World), L2 ms2 at5l2 w4 →
 pN Tryz.prog (oLoad 47 x2) w4 fun x12 w5 =>
 pN Tryz.prog (oBi .len #[47] 3 [false] [x12]) w5 fun x13 w6 =>
 pN Tryz.prog (oBin .lss 3 (.tmp 11) (.tmp 13) at5l2 x13) w6 fun x14 w7 =>
 pIf x14
 (pN Tryz.prog (oLoad 47 x2) w7 fun x17 w8 =>
 pN Tryz.prog (oSl 47 x17 (some at5l2) none none) w8 fun x19 w9 =>
 pN Tryz.prog (oCall 134 [x10, x19]) w9 fun x20 w10 =>
 pN Tryz.prog (oExt x20 0) w10 fun x21 w11 =>
 pN Tryz.prog (oExt x20 1) w11 fun _ w12 =>
 pN Tryz.prog (oBin .add 3 (.tmp 23) (.tmp 24) at5l2 x21) w12 fun x25 w13 =>
 pY Tryz.prog (oCallV x0 [x25]) w13 fun x28 w14 =>
 pN Tryz.prog (oUn .not x28) w14 fun x29 w15 =>
 pIf x29
 (mkW ms2 w15 fun w16 =>
 Q (.tuple #[]) w16)
 ((L2 ms2 x25 w15 ∧ m2 x25 w15 < m2 at5l2 w4)))
 (mkW ms2 w7 fun w17 =>
 Q (.tuple #[]) w17)
noncomputable def cdc_ends_c1R.c : Code := match Tryz.f133.body with | some c => c | none => .skip
theorem cdc_ends_c1R.eq (x0 : Value) (x1 : Value) (x2 : Value) (w : World) (Q : Value → World → Prop) : cwR Tryz.prog cdc_ends_c1R.H cdc_ends_c1R.c none (endR Tryz.prog Tryz.f133.results.toList Q) (argsE [x0, x1, x2]) [] w = cdc_ends_c1R.F x0 x1 x2 w Q := by kernel_rfl
theorem cdc_ends_c1R.calls {x0 : Value} {x1 : Value} {x2 : Value} {w : World} {Q : Value → World → Prop} (h : cdc_ends_c1R.F x0 x1 x2 w Q) : Calls Tryz.prog 133 #[x0, x1, x2] w (@retP Pan.no Q) :=
  calls_of_cwR (H := cdc_ends_c1R.H) (c := cdc_ends_c1R.c) (args := [x0, x1, x2]) mixed Tryz.func133 (by kernel_rfl) (by kernel_rfl) (Nat.le_of_ble_eq_true (by kernel_rfl)) ((cdc_ends_c1R.eq x0 x1 x2 w Q).mpr h)

end Go.Proofs.YtikmogfhhggafaaGreatDoor

namespace Go.Proofs.YtikmogfhhggafaaGreatDoor
open Go

def lpB (l : Nat) (rc : Loop) : HA := blk l (.loop rc)
def mark (r : Nat) : HA := blk r (.deferred (some []))
abbrev ylV (l : Nat) : Value := .func (.yield l) #[] #[]

section
variable {P : Program} {E w w' : World} {L M : List HA} {l r : Nat} {rc : Loop} {K : World → Prop} {KV : Value → World → Prop} {ms : List Nat}

theorem Sat.put_blk {b : Nat} {o o' : Obj} (hS : Sat E w (blk b o :: L)) : Sat E (w.putObj b o') (blk b o' :: L) := by
  refine hS.turn rfl rfl rfl fun h1 hA s => ?_
  have hb := s b o hA
  have hlt : b < w.heap.size := (Array.getElem?_eq_some_iff.1 hb).1
  refine ⟨fun k => if k = b then some o' else h1 k, by simp [blk], ?_, ?_⟩
  · intro k o ek
    dsimp only at ek
    split at ek
    · rename_i hkb; subst hkb; cases ek; exact World.putObj_heap_same hlt
    · rename_i hkb; rw [World.putObj_heap_other hkb]; exact s k o ek
  · intro k o ek hn
    have hkb : k ≠ b := fun e => by subst e; rw [hA] at hn; cases hn
    dsimp only
    rw [if_neg hkb, World.putObj_heap_other hkb]
    exact ⟨ek, hn⟩

theorem lpB_at (hS : Sat E w L) [h : Fnd (lpB l) L rc M] : w.heap[l]? = some (.loop rc) := (hS.fd (lpB l)).blk_at 0 rfl

theorem bg_go (hS : Sat E w L) [h : Fnd (lpB l) L rc M] (hk : ∀ w', Sat E w' (lpB l (busyOf rc) :: M) → K w') : bgW l rc w K :=
  ⟨lpB_at hS, hk _ (Sat.put_blk (hS.fd (lpB l)))⟩
theorem en_none (hS : Sat E w L) [h : Fnd (lpB l) L (busyOf rc) M] (hk : ∀ w', Sat E w' (lpB l rc :: M) → KV (.bool true) w') : enW l rc none KV w :=
  ⟨lpB_at hS, hk _ (Sat.put_blk (hS.fd (lpB l)))⟩
theorem mk_nil (hk : K w) : mkW [] w K := hk
theorem mk_go (hS : Sat E w L) [h : Has (mark r) L M] (hk : ∀ w', Sat E w' M → mkW ms w' K) : mkW (r :: ms) w K := by
  have h1 : Sat E w (mark r :: M) := hS.perm h.perm
  exact ⟨h1.blk_at 0 rfl, hk _ (Sat.put_blk h1).drop⟩

section
variable {N R : List Nat → World → Prop} {X : LX}
theorem jmp_n (hS : Sat E w L) [h : Fnd (lpB l) L rc M] (hst : rc.state = .ready) (hp : rc.pending = none) (hk : ∀ w', Sat E w' M → N ms w') : jmpW l ms N R X w := by
  refine ⟨rc, lpB_at hS, by rw [hst]; simp, ?_⟩
  rw [hp]
  exact hk _ (Sat.put_blk (hS.fd (lpB l))).drop
def YR (P : Program) (l : Nat) (rc : Loop) (np : Nat) (B : Nat → Loop → List Value → World → (Value → World → Prop) → Prop) : Prop :=
  ∀ (Z : Pan) (args : List Value) (w' : World) (K : Value → World → Prop), args.length = np → w'.heap[l]? = some (.loop rc) → B l rc args w' K → @pY Z P (oCallV (ylV l) args) w' K
theorem YR.go {np : Nat} {B : Nat → Loop → List Value → World → (Value → World → Prop) → Prop} {args : List Value} [Z : Pan] (h : YR P l rc np B) (hS : Sat E w L) [hf : Fnd (lpB l) L rc M] (hn : args.length = np) (hB : B l rc args w KV) : pY P (oCallV (ylV l) args) w KV :=
  h Z args w KV hn (lpB_at hS) hB

variable {g : Value} {np : Nat} {B : Nat → Loop → List Value → World → (Value → World → Prop) → Prop}
theorem rf_go (hS : Sat E w L) (hk : ∀ (l D : Nat) (rc : Loop) (w' : World), rc.state = .ready → rc.pending = none → Sat E w' (lpB l rc :: mark D :: L) → YR P l rc np B → pE P (oCallV g [ylV l]) w' fun _ w₂ => jmpW l (D :: ms) N R X w₂) :
    rfW P none ms w g np B N R X := by
  intro rc h1 h2 hy
  have hs1 := (hS.alloc (.deferred (some []))).alloc (.loop rc)
  rw [World.size_alloc] at hs1
  exact hk _ _ rc _ h1 h2 hs1 hy
end

theorem pE_fn {f : FuncId} {cap : List Value} {y : Value} {Q : Value → World → Prop} (hc : ∀ (args : Array Value) (w : World), (callFunc f args).run P w = .ok (.enter f args) w)
    (h : Calls P f (y :: cap).toArray w (@retP Pan.no Q)) : pE P (oCallV (.func (.func f) #[] cap.toArray) [y]) w Q := by
  refine ⟨f, (y :: cap).toArray, ?_, h⟩
  have e : oCallV (.func (.func f) #[] cap.toArray) [y] = callFunc f ((#[] ++ #[y]) ++ cap.toArray) := rfl
  rw [e, hc]
  simp
theorem pY_mono [Pan] {m : Sem Next} {KV' : Value → World → Prop} (h : pY P m w KV) (hk : ∀ v w, KV v w → KV' v w) : pY P m w KV' := by
  have hr : ∀ (e : Ending) (w' : World), retP KV e w' → retP KV' e w' := fun e w' he => by
    cases e with
    | returned v => exact hk _ _ he
    | panicked c => exact he
    | outgrown => exact he
  unfold pY rY at *
  split
  · rename_i heq
    rw [heq] at h
    exact RoundIn.mono h hr
  · rename_i hn
    have h2 : rN P (m.run P w) KV := by
      split at h
      · rename_i heq; exact absurd heq (hn _ _ _ _ _ _)
      · exact h
    unfold rN at *
    split at h2
    · exact hk _ _ h2
    · exact hk _ _ h2
    · exact Calls.mono h2 hr
    · exact h2
    · exact h2.elim
end
end Go.Proofs.YtikmogfhhggafaaGreatDoor

namespace Go.Proofs.YtikmogfhhggafaaGreatDoor
open Go

namespace C
theorem ends_at : ∀ (pre : List (List UInt8)) (q : List UInt8) (r : List (List UInt8)) (a : Nat), (ends a (pre ++ q :: r))[pre.length]? = some (a + pre.flatten.length + q.length)
  | [], q, r, a => by simp [ends]
  | p :: pre, q, r, a => by
    rw [List.cons_append, ends, List.length_cons, List.getElem?_cons_succ, ends_at pre q r, List.flatten_cons, List.length_append]
    congr 1; omega
theorem eat_nil (k : K) (s : W) (n : Nat) : eat k s n [] = (0, false) := rfl
theorem eat_over {k : K} {s : W} {n : Nat} {x : UInt8} {r : List UInt8} (h : over k (roll s x) (n + 1) = true) : eat k s n (x :: r) = (1, true) := by rw [eat, if_pos h]
theorem eat_on {k : K} {s : W} {n : Nat} {x : UInt8} {r : List UInt8} (h : over k (roll s x) (n + 1) = false) : eat k s n (x :: r) = ((eat k (roll s x) (n + 1) r).1 + 1, (eat k (roll s x) (n + 1) r).2) := by rw [eat, h]; rfl
theorem roll_eq (s : W) (x : UInt8) : s <<< 1 + gear x = roll s x := rfl
end C

abbrev rlC (k : C.K) (s : C.W) (n : Nat) : List Value := [.int .i64 k.least, .int .i64 k.most, .int .i64 k.bits, lv s, .int .i64 n]
theorem run_bRoll (k : C.K) (w : World) : (oBuild 230 [(0, .agg #[.int .i64 k.least, .int .i64 k.most, .int .i64 k.bits])]).run Tryz.prog w = .ok (.value (.agg (rlC k 0 0).toArray)) w := by kernel_rfl
theorem pN_bRoll [Pan] {w : World} {K : Value → World → Prop} {k : C.K} (hk : K (.agg (rlC k 0 0).toArray) w) : pN Tryz.prog (oBuild 230 [(0, .agg #[.int .i64 k.least, .int .i64 k.most, .int .i64 k.bits])]) w K := by rw [pN_def, run_bRoll, rN_value]; exact hk

attribute [local irreducible] oMv oV oU oCall oCallV oBi oBin oUn oLoad oStore oNil oFld oField oIdx oIndex oPick oAlloc oBox oBuild oBs oConv oMk oSl oExt oFn oIface oMap oLook oMapUp oRange oNext oEntry oInv oAssert oPanic oRes pN pA pL pDr pIf gA pGd Calls C.over C.eat C.ends mkW bgW enW rfW jmpW pY pE
section
variable [Pan] {E w W : World} {K Q : Value → World → Prop} {J : Value → Prop} {L M N : List HA} {l r : List UInt8} {s s2 : Sl} {b : Nat}

theorem CLegal_ok (k : C.K) (hS : Sat E w M) (hQ : ∀ w, Sat E w M → Q (.int .i64 (if k.legal then 0 else 6)) w) : Calls Tryz.prog 87 #[.agg #[.int .i64 k.least, .int .i64 k.most, .int .i64 k.bits]] w (retP Q) := by
  refine cdc_Legal.calls ?_
  unfold cdc_Legal.F
  refine pN_bx (z := [.int .i64 k.least, .int .i64 k.most, .int .i64 k.bits]) hS rfl ?_
  clear hS
  intro b w hS
  have hyes : k.legal → Q (.int .i64 0) w := fun h => by rw [if_pos h] at hQ; exact hQ _ hS.drop
  have hno : ¬ k.legal → Q (.int .i64 6) w := fun h => by rw [if_neg h] at hQ; exact hQ _ hS.drop
  clear hQ
  unfold C.K.legal at hyes hno
  by_cases h1 : k.least < 64
  · repeat' (first | (refine pN_lss_s ?_ ?_ <;> intro hc <;> try (exfalso; omega)) | refine pIf_t ?_ | refine pGd_no (by rfl) ?_ | refine pN_l hS (by first | rfl | assumption) ?_ | refine pN_v (hk := ?_) | fail)
    exact hno (by omega)
  · by_cases h2 : k.least > k.most
    · repeat' (first | ((first | refine pN_lss_s ?_ ?_ | refine pN_gtr_s ?_ ?_) <;> intro hc <;> try (exfalso; omega)) | refine pIf_t ?_ | refine pGd_go (by rfl) ?_ | refine pGd_no (by rfl) ?_ | refine pN_l hS (by first | rfl | assumption) ?_ | refine pN_v (hk := ?_) | fail)
      exact hno (by omega)
    · by_cases h3 : k.most > 1048576
      · repeat' (first | ((first | refine pN_lss_s ?_ ?_ | refine pN_gtr_s ?_ ?_) <;> intro hc <;> try (exfalso; omega)) | refine pIf_t ?_ | refine pGd_go (by rfl) ?_ | refine pGd_no (by rfl) ?_ | refine pN_l hS (by first | rfl | assumption) ?_ | refine pN_v (hk := ?_) | fail)
        exact hno (by omega)
      · by_cases h4 : k.bits < 0
        · repeat' (first | ((first | refine pN_lss_s ?_ ?_ | refine pN_gtr_s ?_ ?_) <;> intro hc <;> try (exfalso; omega)) | refine pIf_t ?_ | refine pGd_go (by rfl) ?_ | refine pGd_no (by rfl) ?_ | refine pN_l hS (by first | rfl | assumption) ?_ | refine pN_v (hk := ?_) | fail)
          exact hno (by omega)
        · by_cases h5 : k.bits > 20
          · repeat' (first | ((first | refine pN_lss_s ?_ ?_ | refine pN_gtr_s ?_ ?_) <;> intro hc <;> try (exfalso; omega)) | refine pIf_t ?_ | refine pGd_go (by rfl) ?_ | refine pN_l hS (by first | rfl | assumption) ?_ | refine pN_v (hk := ?_) | fail)
            exact hno (by omega)
          · repeat' (first | ((first | refine pN_lss_s ?_ ?_ | refine pN_gtr_s ?_ ?_) <;> intro hc <;> try (exfalso; omega)) | refine pIf_f ?_ | refine pGd_go (by rfl) ?_ | refine pN_l hS (by first | rfl | assumption) ?_ | refine pN_v (hk := ?_) | fail)
            exact hyes (by omega)

theorem Gear_ok (c : UInt8) (hS : Sat E w M) (hQ : ∀ w, Sat E w M → Q (lv (C.gear c)) w) : Calls Tryz.prog 182 #[bv c] w (retP Q) := by
  refine cdc_Gear.calls ?_
  unfold cdc_Gear.F
  repeat' (first | refine pN_tol ?_ | refine pN_add_vk 1#64 rfl ?_ | refine pN_mul_vk 11400714819323198485#64 rfl ?_ | refine pN_mul_vk 13787848793156543929#64 rfl ?_ | refine pN_mul_vk 10723151780598845931#64 rfl ?_ | refine pN_shr_v 30 rfl (by omega) ?_ | refine pN_shr_v 27 rfl (by omega) ?_ | refine pN_shr_v 31 rfl (by omega) ?_ | refine pN_xor_v ?_ | fail)
  exact hQ _ hS
end
attribute [local irreducible] C.gear C.roll C.fst
section
variable [Pan] {E w W : World} {K Q : Value → World → Prop} {J : Value → Prop} {L M N : List HA} {l r : List UInt8} {s s2 : Sl} {b : Nat}
set_option maxHeartbeats 2000000 in
set_option maxRecDepth 8000 in
theorem Eat_ok {k : C.K} (hk : k.legal) (t : C.W) (n : Nat) (hS : Sat E w (cel b ⟨230, rlC k t n⟩ :: M)) [hr : Rds cd_uint8 M s l] (hn : n + l.length < 4611686018427387904)
    (hQ : ∀ t' n' w, ((C.eat k t n l).2 = true → t' = 0 ∧ n' = 0) → Sat E w (cel b ⟨230, rlC k t' n'⟩ :: M) → Q (.tuple #[.int .i64 (C.eat k t n l).1, .bool (C.eat k t n l).2]) w) :
    Calls Tryz.prog 134 #[.pointer (some ⟨b, 0, none⟩), .slice s.a l.length s.c] w (retP Q) := by
  obtain ⟨k1, k2, k3, k4, k5⟩ := hk
  refine cdc_roll_eat.calls ?_
  unfold cdc_roll_eat.F
  repeat' (first | refine pN_v (hk := ?_) | fail)
  refine ⟨fun x w => ∃ (i : Nat) (t' : C.W), x = .int .i64 i ∧ i ≤ l.length ∧ C.eat k t n l = ((C.eat k t' (n + i) (l.drop i)).1 + i, (C.eat k t' (n + i) (l.drop i)).2) ∧ Sat E w (cel b ⟨230, rlC k t' (n + i)⟩ :: M), fun x _ => l.length - (RowKit.intOf x).toNat, ⟨0, t, rfl, by omega, by rw [List.drop_zero]; rfl, hS⟩, ?_⟩
  clear hS
  rintro _ _ w ⟨i, t', rfl, hi, he, hS⟩
  by_cases hlt : i < l.length
  · obtain ⟨c, hc⟩ : ∃ c, l[i]? = some c := ⟨l[i], by simp [hlt]⟩
    have hd : l.drop i = c :: l.drop (i + 1) := by
      rw [List.drop_eq_getElem_cons hlt]
      rw [List.getElem?_eq_getElem hlt] at hc
      rw [Option.some.inj hc]
    rw [hd] at he
    have hyes := fun h => he.trans (by rw [C.eat_over (k := k) (s := t') (n := n + i) (x := c) (r := l.drop (i + 1)) h])
    have hno := fun h => he.trans (by rw [C.eat_on (k := k) (s := t') (n := n + i) (x := c) (r := l.drop (i + 1)) h])
    have hov : C.over k (C.roll t' c) (n + i + 1) = (decide (k.least ≤ ((n + i + 1 : Nat) : Int)) && (decide (((n + i + 1 : Nat) : Int) = k.most) || decide (C.roll t' c >>> (64 - k.bits.toNat) = 0#64))) := C.over_eq ..
    have hro := C.roll_eq t' c
    repeat' (first | refine pA_shl_v 1 rfl (by omega) ?_ | (refine pc_cdc_Gear (Gear_ok c hS ?_); clear hS; intro w hS) | refine ⟨⟨run_l hS (by rfl), trivial⟩, ?_⟩ | refine pA_add_v ?_ | refine pA_shr_v (64 - k.bits.toNat) (by omega) (by omega) ?_ | refine pA_eql_v0 (fun hC => ?_) (fun hC => ?_) | ((first | refine pN_lss_s ?_ ?_ | refine pA_geq_s ?_ ?_) <;> intro hc <;> try (exfalso; omega)) | (refine pA_eql_s ?_ ?_ <;> intro hc <;> try (exfalso; first | omega | exact hc rfl | exact hc (by assumption) | exact absurd hc (by assumption))) | refine pIf_t ?_ | refine pIf_f ?_ | refine gA_go (by rfl) ?_ | refine gA_no (by rfl) ?_ | refine pN_l hS (by first | rfl | assumption) ?_ | refine pL_l hS (by first | rfl | assumption) ?_ | refine pN_ld1 ha hS ?_ | (refine pN_s hS (by first | exact Nat.le_of_ble_eq_true rfl | assumption) (by rfl) ?_; clear hS; intro w hS; try simp only [List.set_cons_zero, List.set_cons_succ] at hS) | (refine pDr_go hS ?_; clear hS; intro w hS) | refine ⟨trivial, ?_⟩ | refine pN_ixk hS _ (by first | rfl | (exact (Int.toNat_of_nonneg (by omega)).symm)) (by first | rfl | omega | simpa only [go_sem] using True.intro | (simp only [go_sem]; omega)) (by assumption) fun a ha hel => ?_ | refine pN_v (hk := ?_) | refine pA_v (hk := ?_) | fail)
    · have ho : C.over k (C.roll t' c) (n + i + 1) = true := by
        rw [hov, decide_eq_true (by omega), decide_eq_true (show ((n + i + 1 : Nat) : Int) = k.most by omega)]; rfl
      have hy := hyes ho
      have e1 : ((i : Int) + 1) = ((1 + i : Nat) : Int) := by omega
      rw [hy] at hQ
      rw [e1]
      exact hQ 0 0 _ (fun _ => ⟨rfl, rfl⟩) hS
    · rw [hro] at hC
      have ho : C.over k (C.roll t' c) (n + i + 1) = true := by
        rw [hov, decide_eq_true (by omega), decide_eq_true hC, Bool.or_true]; rfl
      have hy := hyes ho
      have e1 : ((i : Int) + 1) = ((1 + i : Nat) : Int) := by omega
      rw [hy] at hQ
      rw [e1]
      exact hQ 0 0 _ (fun _ => ⟨rfl, rfl⟩) hS
    · rw [hro] at hC hS
      have ho : C.over k (C.roll t' c) (n + i + 1) = false := by
        rw [hov, decide_eq_false hC, decide_eq_false (show ¬ ((n + i + 1 : Nat) : Int) = k.most by omega), Bool.or_false, Bool.and_false]
      have hy := hno ho
      exact ⟨⟨i + 1, _, rfl, by omega, by rw [hy]; exact Prod.ext (by simp only [Nat.add_assoc, Nat.add_comm 1]) rfl, hS⟩, by simp [RowKit.intOf] <;> omega⟩
    · rw [hro] at hS
      have ho : C.over k (C.roll t' c) (n + i + 1) = false := by
        rw [hov, decide_eq_false (by omega), Bool.false_and]
      have hy := hno ho
      exact ⟨⟨i + 1, _, rfl, by omega, by rw [hy]; exact Prod.ext (by simp only [Nat.add_assoc, Nat.add_comm 1]) rfl, hS⟩, by simp [RowKit.intOf] <;> omega⟩
  · obtain rfl : i = l.length := by omega
    rw [List.drop_length, C.eat_nil, Nat.zero_add] at he
    rw [he] at hQ
    repeat' (first | (refine pN_lss_s ?_ ?_ <;> intro hc <;> try (exfalso; omega)) | refine pIf_f ?_ | refine pN_v (hk := ?_) | fail)
    exact hQ _ _ _ (fun h => by cases h) hS
end
section
variable {E w W : World} {K Q : Value → World → Prop} {J : Value → Prop} {L M N : List HA} {l r : List UInt8} {s s2 : Sl} {b : Nat}
abbrev endP (cc cb : Nat) (k : C.K) (s : Sl) (l : List UInt8) (L : List HA) : List HA := cel cc ⟨27, [.int .i64 k.least, .int .i64 k.most, .int .i64 k.bits]⟩ :: cel cb ⟨47, [.slice s.a l.length s.c]⟩ :: L

set_option maxHeartbeats 2000000 in
theorem Ends_c1_ok {yl : Value} {cc cb : Nat} {k : C.K} (hk : k.legal) (B : Nat → List HA → Prop) (hB0 : B 0 L) (hS : Sat E w (endP cc cb k s l L)) (hrd : ∀ j L, B j L → Rds cd_uint8 L s l) (hl : l.length < 2305843009213693952)
    (hY : ∀ (R : HA) (j e : Nat) (L : List HA) (w : World), (C.ends 0 (C.pieces k l))[j]? = some e → B j L → Sat E w (R :: endP cc cb k s l L) →
      pY Tryz.prog (oCallV yl [.int .i64 e]) w fun v w' => v = .bool true ∧ ∃ L', B (j + 1) L' ∧ Sat E w' (R :: endP cc cb k s l L'))
    (hQ : ∀ L w, B (C.pieces k l).length L → Sat E w (endP cc cb k s l L) → Q (.tuple #[]) w) :
    Calls Tryz.prog 133 #[yl, .pointer (some ⟨cc, 0, none⟩), .pointer (some ⟨cb, 0, none⟩)] w (retP Q) := by
  refine cdc_ends_c1R.calls ?_
  unfold cdc_ends_c1R.F
  repeat' (first | refine pN_bRoll ?_ | refine pN_la hS (by rfl) ?_ | (refine pN_bx hS (by rfl) ?_; clear hS; intro a w hS) | fail)
  refine ⟨fun ms v w => ms = [] ∧ ∃ (p : Nat) (t : C.W) (n : Nat) (pre : List (List UInt8)) (L : List HA), v = .int .i64 p ∧ p ≤ l.length ∧ C.pieces k l = pre ++ C.pieces k (l.drop p) ∧ pre.flatten.length = p ∧ (p < l.length → t = 0 ∧ n = 0) ∧ B pre.length L ∧ Sat E w (cel a ⟨230, rlC k t n⟩ :: endP cc cb k s l L), fun v _ => l.length - (RowKit.intOf v).toNat,
    ⟨rfl, 0, 0, 0, [], L, rfl, by omega, by rw [List.drop_zero]; rfl, rfl, fun _ => ⟨rfl, rfl⟩, hB0, hS⟩, ?_⟩
  clear hS hB0
  rintro _ _ _ w ⟨rfl, p, t, n, pre, L, rfl, hp, hpc, hpl, h0, hB, hS⟩
  haveI hr : Rds cd_uint8 L s l := hrd _ _ hB
  by_cases hlt : p < l.length
  · obtain ⟨rfl, rfl⟩ := h0 hlt
    have hne : l.drop p ≠ [] := by
      intro h
      have := congrArg List.length h
      rw [List.length_drop, List.length_nil] at this
      omega
    rw [C.pieces_cons k hne] at hpc
    have hf1 := C.fst_pos k hne
    have hf2 := C.fst_le k (l.drop p)
    have hall := C.eat_all k (l.drop p) 0 0
    have hfe : C.fst k (l.drop p) = (C.eat k 0 0 (l.drop p)).1 := C.fst_eq k _
    have hdl : (l.drop p).length = l.length - p := List.length_drop
    rw [hdl] at hf2 hall
    have htl : ((l.drop p).take (C.fst k (l.drop p))).length = C.fst k (l.drop p) := by rw [List.length_take, hdl]; omega
    have hend : (C.ends 0 (C.pieces k l))[pre.length]? = some (p + C.fst k (l.drop p)) := by
      rw [hpc, C.ends_at, hpl, htl, Nat.zero_add]
    have hdd : (l.drop p).drop (C.fst k (l.drop p)) = l.drop (p + C.fst k (l.drop p)) := by rw [List.drop_drop]
    rw [hdd] at hpc
    repeat' (first | refine pN_sl1 (C := cd_uint8) (s := s) (l := l) hS p rfl rfl (by omega) fun s' hp' => ?_ | (refine pN_lss_s ?_ ?_ <;> intro hc <;> try (exfalso; omega)) | refine pIf_t ?_ | refine pN_l hS (by first | rfl | assumption) ?_ | refine pN_v (hk := ?_) | fail)
    haveI hrs : Rds cd_uint8 (endP cc cb k s l L) s' (l.drop p) := hp'.rd _ inferInstance
    rw [← hdl]
    refine pc_cdc_roll_eat (Eat_ok hk 0 0 hS (by rw [hdl]; omega) ?_)
    clear hS
    intro t' n' w hz hS
    rw [← hfe]
    have hcast : ((p : Int) + (C.fst k (l.drop p) : Nat)) = ((p + C.fst k (l.drop p) : Nat) : Int) := by norm_cast
    repeat' (first | refine pN_v (hk := ?_) | fail)
    rw [hcast]
    refine pY_mono (hY _ pre.length _ L w hend hB hS) ?_
    clear hS
    rintro _ w ⟨rfl, L', hB', hS⟩
    repeat' (first | refine pIf_f ?_ | refine pN_v (hk := ?_) | fail)
    refine ⟨⟨rfl, p + C.fst k (l.drop p), t', n', pre ++ [(l.drop p).take (C.fst k (l.drop p))], L', rfl, by omega, ?_, ?_, fun hlt2 => ?_, ?_, hS⟩, by simp [RowKit.intOf] <;> omega⟩
    · rw [hpc, List.append_assoc]; rfl
    · rw [List.flatten_append, List.length_append, hpl]
      simp only [List.flatten_cons, List.flatten_nil, List.append_nil, htl]
    · cases he2 : (C.eat k 0 0 (l.drop p)).2 with
      | true => exact hz he2
      | false =>
        have := hall he2
        rw [← hfe] at this
        omega
    · rw [List.length_append]; exact hB'
  · obtain rfl : p = l.length := by omega
    rw [List.drop_length, C.pieces_nil, List.append_nil] at hpc
    repeat' (first | (refine pN_lss_s ?_ ?_ <;> intro hc <;> try (exfalso; omega)) | refine pIf_f ?_ | refine pN_l hS (by first | rfl | assumption) ?_ | refine pN_v (hk := ?_) | fail)
    rw [← hpc] at hB
    exact mk_nil (hQ L w hB (hS.to))

theorem Ends_ok {k : C.K} (hS : Sat E w M) (hQ : ∀ cc cb w, Sat E w (endP cc cb k s l M) → Q (.func (.func 133) #[] #[.pointer (some ⟨cc, 0, none⟩), .pointer (some ⟨cb, 0, none⟩)]) w) :
    Calls Tryz.prog 103 #[.slice s.a l.length s.c, .agg #[.int .i64 k.least, .int .i64 k.most, .int .i64 k.bits]] w (retP Q) := by
  refine cdc_ends.calls ?_
  unfold cdc_ends.F
  refine pN_bx (z := [.slice s.a l.length s.c]) hS rfl ?_
  clear hS
  intro cb w hS
  refine pN_bx (z := [.int .i64 k.least, .int .i64 k.most, .int .i64 k.bits]) hS rfl ?_
  clear hS
  intro cc w hS
  repeat' (first | refine pN_fn ?_ | fail)
  exact hQ _ _ _ hS

def endsI (k : C.K) (l : List UInt8) : List Int := (C.ends 0 (C.pieces k l)).map fun n : Nat => (n : Int)
theorem endsI_len (k : C.K) (l : List UInt8) : (endsI k l).length = (C.pieces k l).length := by rw [endsI, List.length_map, C.ends_len]
theorem endsI_get {k : C.K} {l : List UInt8} {j e : Nat} (h : (C.ends 0 (C.pieces k l))[j]? = some e) : (endsI k l)[j]? = some (e : Int) := by rw [endsI, List.getElem?_map, h]; rfl

set_option maxHeartbeats 2000000 in
theorem Cut_ok {k : C.K} (hk : k.legal) (hS : Sat E w M) [hr : Rds cd_uint8 M s l] (hl : l.length ≤ 1099511627776)
    (hQ : ∀ so w, Sat E w (rows cd_int so (endsI k l) :: M) → Q (.tuple #[.slice so.a (C.pieces k l).length so.c, .int .i64 0]) w) :
    Calls Tryz.prog 63 #[.slice s.a l.length s.c, .agg #[.int .i64 k.least, .int .i64 k.most, .int .i64 k.bits]] w (retP Q) := by
  have hil := endsI_len k l
  have hpl := C.pieces_len k l
  have hget := fun {j e} => @endsI_get k l j e
  refine cdc_CutR.calls ?_
  unfold cdc_CutR.F
  refine pN_bx (z := [.int .i64 k.least, .int .i64 k.most, .int .i64 k.bits]) hS rfl ?_
  clear hS
  intro cq w hS
  repeat' (first | (refine pc_cdc_Legal (CLegal_ok k hS ?_); rw [if_pos hk]; clear hS; intro w hS) | (refine pc_cdc_ends (Ends_ok (s := s) (l := l) (k := k) hS ?_); clear hS; intro cc cb w hS) | (refine pN_neq_s ?_ ?_ <;> intro hc <;> try (exfalso; first | omega | exact hc rfl | exact hc (by assumption) | exact absurd hc (by assumption))) | refine pIf_f ?_ | refine pN_la hS (by rfl) ?_ | (refine pN_nz hS ?_; clear hS; intro a w hS) | fail)
  refine rf_go hS ?_
  clear hS
  intro lp D rc w hrc1 hrc2 hS hY
  generalize endsI k l = I at *
  have hS : Sat E w (endP cc cb k s l (lpB lp rc :: mark D :: cel a ⟨46, [.slice none 0 0]⟩ :: rows cd_int ⟨none, 0⟩ (I.take 0) :: M)) := by
    have h1 : Sat E w (rows cd_int ⟨none, 0⟩ [] :: _) := hS.nil cd_int.e cd_int.size
    rw [List.take_zero]
    exact h1.to
  refine pE_fn (fun a w => call_cdc_ends_c1 a w) (Ends_c1_ok (s := s) (l := l) (cc := cc) (cb := cb) hk
    (fun j L => ∃ so : Sl, L = (lpB lp rc :: mark D :: cel a ⟨46, [.slice so.a (I.take j).length so.c]⟩ :: rows cd_int so (I.take j) :: M))
    ⟨⟨none, 0⟩, rfl⟩ hS (fun j L ⟨_, e⟩ => by subst e; infer_instance) (by omega) ?_ ?_)
  · clear hS
    rintro R j e L w he ⟨so, rfl⟩ hS
    have hj := hget he
    have hjl := (List.getElem?_eq_some_iff.1 hj).1
    have hb8 : ((I.take j).length + 1) * 8 ≤ 140737488355328 := by rw [List.length_take]; omega
    have hsucc : I.take (j + 1) = I.take j ++ [(e : Int)] := by rw [List.take_add_one, hj]; rfl
    refine hY.go hS rfl ?_
    dsimp only [nthV]
    generalize I.take j = T at *
    repeat' (first | (refine bg_go hS ?_; clear hS; intro w hS) | refine pN_l hS (by first | rfl | assumption) ?_ | (refine pN_s hS (by first | exact Nat.le_of_ble_eq_true rfl | assumption) (by rfl) ?_; clear hS; intro w hS; try simp only [List.set_cons_zero, List.set_cons_succ] at hS) | (refine pN_b1 hS (by rfl) (by decide) ?_; clear hS; intro s w hS) | (refine pN_app hS (by first | rfl | omega | simpa only [go_sem] using True.intro | (simp only [go_sem]; omega)) (by first | rfl | omega | simpa only [go_sem] using True.intro | (simp only [go_sem]; omega)) (by first | omega | (simp only [go_sem]; omega)) ?_; clear hS; intro s w hS) | fail)
    refine en_none hS ?_
    clear hS
    intro w hS
    refine ⟨rfl, _, ⟨s, rfl⟩, ?_⟩
    rw [hsucc]
    exact hS.to
  · clear hS
    rintro L w ⟨so, rfl⟩ hS
    rw [← hil, List.take_length] at hS
    rw [← hil] at hQ
    have hS : Sat E w (lpB lp rc :: mark D :: cel a ⟨46, [.slice so.a I.length so.c]⟩ :: rows cd_int so I :: M) := hS.to
    refine jmp_n hS hrc1 hrc2 ?_
    clear hS
    intro w hS
    repeat' (first | refine mk_nil ?_ | (refine mk_go hS ?_; clear hS; intro w hS) | refine pN_l hS (by first | rfl | assumption) ?_ | fail)
    exact hQ _ _ hS.to
end
end Go.Proofs.YtikmogfhhggafaaGreatDoor

namespace Go.Proofs.YtikmogfhhggafaaGreatDoor
open Go
set_option maxRecDepth 100000

def bytes_Compare.F [Pan] (x0 x1 : Value) (w : World) (Q : Value → World → Prop) : Prop :=
 pN Tryz.prog (oCall 106 [x0, x1]) w fun x7 w1 =>
 Q x7 w1
theorem bytes_Compare.calls [Pan] {x0 x1 : Value} {w : World} {Q : Value → World → Prop} (h : bytes_Compare.F x0 x1 w Q) : Calls Tryz.prog 68 #[x0, x1] w (retP Q) := calls_lift mixed .z [x0, x1] Tryz.func68 (by kernel_rfl) (by kernel_rfl) h

end Go.Proofs.YtikmogfhhggafaaGreatDoor

namespace Go.Proofs.YtikmogfhhggafaaGreatDoor
open Go
set_option maxRecDepth 100000

def strings_Compare.F [Pan] (x0 x1 : Value) (w : World) (Q : Value → World → Prop) : Prop :=
 pN Tryz.prog (oCall 128 [x0, x1]) w fun x7 w1 =>
 Q x7 w1
theorem strings_Compare.calls [Pan] {x0 x1 : Value} {w : World} {Q : Value → World → Prop} (h : strings_Compare.F x0 x1 w Q) : Calls Tryz.prog 98 #[x0, x1] w (retP Q) := calls_lift mixed .z [x0, x1] Tryz.func98 (by kernel_rfl) (by kernel_rfl) h

def strings_IndexByte.F [Pan] (x0 x1 : Value) (w : World) (Q : Value → World → Prop) : Prop :=
 pN Tryz.prog (oCall 154 [x0, x1]) w fun x7 w1 =>
 Q x7 w1
theorem strings_IndexByte.calls [Pan] {x0 x1 : Value} {w : World} {Q : Value → World → Prop} (h : strings_IndexByte.F x0 x1 w Q) : Calls Tryz.prog 121 #[x0, x1] w (retP Q) := calls_lift mixed .z [x0, x1] Tryz.func121 (by kernel_rfl) (by kernel_rfl) h

end Go.Proofs.YtikmogfhhggafaaGreatDoor

namespace Go.Proofs.YtikmogfhhggafaaGreatDoor
open Go
set_option maxRecDepth 100000

def internal_stringslite_IndexByte.F [Pan] (x0 x1 : Value) (w : World) (Q : Value → World → Prop) : Prop :=
 pN Tryz.prog (oCall 205 [x0, x1]) w fun x7 w1 =>
 Q x7 w1
theorem internal_stringslite_IndexByte.calls [Pan] {x0 x1 : Value} {w : World} {Q : Value → World → Prop} (h : internal_stringslite_IndexByte.F x0 x1 w Q) : Calls Tryz.prog 154 #[x0, x1] w (retP Q) := calls_lift mixed .z [x0, x1] Tryz.func154 (by kernel_rfl) (by kernel_rfl) h

end Go.Proofs.YtikmogfhhggafaaGreatDoor

namespace Go.Proofs.YtikmogfhhggafaaGreatDoor
open Go

instance stry : StrY Tryz.prog 9 := ⟨Tryz.underlying9⟩
instance strb : StrB Tryz.prog 9 47 cd_uint8 := ⟨Tryz.underlying9, Tryz.underlying47, Tryz.underlying5, rfl, fun _ => rfl⟩
instance inty : IntY Tryz.prog 3 .i64 := ⟨Tryz.underlying3⟩

namespace A
abbrev ixb (l : List UInt8) (c : UInt8) : Int := Lib.indexByte l c
theorem ixb_ge (l : List UInt8) (c : UInt8) : -1 ≤ ixb l c := Lib.indexByte_ge l c
theorem ixb_mem {l : List UInt8} {c : UInt8} : 0 ≤ ixb l c ↔ c ∈ l := by
  constructor
  · intro h
    obtain ⟨o, ho⟩ : ∃ o : Nat, ixb l c = o := ⟨(ixb l c).toNat, by omega⟩
    exact List.mem_of_getElem? (Lib.indexByte_some ho).1
  · intro h
    refine Decidable.byContradiction fun hn => ?_
    have h1 : ixb l c = -1 := by have := ixb_ge l c; omega
    obtain ⟨k, hk⟩ := List.mem_iff_getElem?.1 h
    exact Lib.indexByte_none h1 k hk
def text : List UInt8 → List UInt8
  | [] => []
  | b :: l => if b = 0 then [] else b :: text l
end A

section
variable [Pan] {E w : World} {K Q : Value → World → Prop} {L M : List HA} {l r : List UInt8} {s s2 : Sl}

omit [Pan] in
theorem u8_toNat (c : UInt8) : ((c.toNat : Int)).toNat.toUInt8 = c := by simp
theorem pN_ibs (c : UInt8) (hk : K (.int .i64 (A.ixb l c)) w) : pN Tryz.prog (oCall 205 [.string ⟨l.toArray⟩, bv c]) w K := by
  have h := run_callFunc_extern (P := Tryz.prog) Tryz.func205 (by kernel_rfl) (by kernel_rfl) (by kernel_rfl) (e := Extern.BytealgIndexByte.indexByte) (by kernel_rfl) #[.string ⟨l.toArray⟩, .int .u8 c.toNat] w
  rw [Lib.run_indexByteString, u8_toNat] at h
  have h2 : (oCall 205 [.string ⟨l.toArray⟩, bv c]).run Tryz.prog w = .ok (.value (.int .i64 (A.ixb l c))) w := h
  rw [pN_def, h2, rN_value]
  exact hk
attribute [local irreducible] oMv oV oU oCall oCallV oBi oBin oUn oLoad oStore oNil oFld oField oIdx oIndex oPick oAlloc oBox oBuild oBs oConv oMk oSl oExt oFn oIface oMap oLook oMapUp oRange oNext oEntry oInv oAssert oPanic oRes pN pA pL pDr pIf gA pGd Calls
theorem sIndexByte_ok (c : UInt8) (hQ : Q (.int .i64 (A.ixb l c)) w) : Calls Tryz.prog 121 #[.string ⟨l.toArray⟩, bv c] w (retP Q) := by
  refine strings_IndexByte.calls ?_
  unfold strings_IndexByte.F
  refine pc_internal_stringslite_IndexByte ?_
  refine internal_stringslite_IndexByte.calls ?_
  unfold internal_stringslite_IndexByte.F
  exact pN_ibs c hQ
end

end Go.Proofs.YtikmogfhhggafaaGreatDoor

namespace Go.Proofs.YtikmogfhhggafaaGreatDoor
open Go
namespace D
theorem get_cons {d : T} {i : I32} {l : List I32} : d.get (i :: l) = (look d.ps i).bind fun p => (d.get l).map fun q => p ++ q := by
  rw [T.get]
  cases look d.ps i with
  | none => rfl
  | some p => cases d.get l <;> rfl
theorem get_app {d : T} : ∀ (l m : List I32), d.get (l ++ m) = (d.get l).bind fun p => (d.get m).map fun q => p ++ q
  | [], m => by
    rw [List.nil_append]
    show d.get m = (some []).bind _
    cases d.get m <;> simp
  | i :: l, m => by
    rw [List.cons_append, get_cons, get_cons, get_app l m]
    cases look d.ps i with
    | none => rfl
    | some p =>
      cases d.get l with
      | none => rfl
      | some q => cases d.get m <;> simp
theorem get_take {d : T} {l : List I32} {j : Nat} {i : I32} (h : l[j]? = some i) : d.get (l.take (j + 1)) = (d.get (l.take j)).bind fun p => (look d.ps i).map fun q => p ++ q := by
  rw [List.take_add_one, h, get_app]
  congr 1
  funext p
  show (d.get [i]).map _ = _
  rw [get_cons]
  cases look d.ps i with
  | none => rfl
  | some q => simp [T.get]
theorem get_none {d : T} {l : List I32} {j : Nat} (h : d.get (l.take j) = none) : d.get l = none := by
  have := get_app (d := d) (l.take j) (l.drop j)
  rw [List.take_append_drop, h] at this
  exact this
end D
theorem run_bDep (a b c d e f g h k l m : Int) (x y : Nat) (w : World) : (oBuild 129 [(0, .agg #[.int .i64 a, .int .i64 b, .int .i64 c, .int .i64 d, .int .i64 e, .int .i64 f, .int .i64 g, .int .i64 h]), (1, .agg #[.int .i64 k, .int .i64 l, .int .i64 m]), (2, .map (some x)), (3, .map (some y))]).run Tryz.prog w =
    .ok (.value (.agg #[.int .i64 a, .int .i64 b, .int .i64 c, .int .i64 d, .int .i64 e, .int .i64 f, .int .i64 g, .int .i64 h, .int .i64 k, .int .i64 l, .int .i64 m, .map (some x), .map (some y)])) w := by kernel_rfl
set_option maxRecDepth 100000 in
theorem pN_bDep [Pan] {w : World} {K : Value → World → Prop} {a b c d e f g h k l m : Int} {x y : Nat} (hk : K (.agg #[.int .i64 a, .int .i64 b, .int .i64 c, .int .i64 d, .int .i64 e, .int .i64 f, .int .i64 g, .int .i64 h, .int .i64 k, .int .i64 l, .int .i64 m, .map (some x), .map (some y)]) w) :
    pN Tryz.prog (oBuild 129 [(0, .agg #[.int .i64 a, .int .i64 b, .int .i64 c, .int .i64 d, .int .i64 e, .int .i64 f, .int .i64 g, .int .i64 h]), (1, .agg #[.int .i64 k, .int .i64 l, .int .i64 m]), (2, .map (some x)), (3, .map (some y))]) w K := pN_of (run_bDep a b c d e f g h k l m x y w) hk
attribute [local irreducible] oMv oV oU oCall oCallV oBi oBin oUn oLoad oStore oNil oFld oField oIdx oIndex oPick oAlloc oBox oBuild oBs oConv oMk oSl oExt oFn oIface oMap oLook oMapUp oRange oNext oEntry oInv oAssert oPanic oRes pN pA pL pDr pIf gA pGd Calls
section
variable [Pan] {E w : World} {K Q : Value → World → Prop} {L M N : List HA} {l r : List UInt8} {s s2 : Sl} {c : T_api_Config} {b : Nat} {d : D.T} {li : List I32}

theorem DNew_in {k : C.K} (hc : D.okC c) (hk : k.legal) (hS : Sat E w M) (hQ : ∀ b w, Sat E w (Dep c b (D.new k) :: M) → Q (.tuple #[.pointer (some ⟨b, 0, none⟩), .int .i64 0]) w) :
    Calls Tryz.prog 48 #[.agg c.enc.toArray, .agg #[.int .i64 k.least, .int .i64 k.most, .int .i64 k.bits]] w (retP Q) := by
  refine depot_New.calls ?_
  unfold depot_New.F
  refine pN_bx (z := c.enc) hS rfl ?_
  clear hS
  intro cb w hS
  refine pN_bx (z := [.int .i64 k.least, .int .i64 k.most, .int .i64 k.bits]) hS rfl ?_
  clear hS
  intro kb w hS
  refine pN_la_at (n := 8) hS c.enc rfl rfl ?_
  refine pc_chain_Legal (Chain_ok c hS ?_)
  rw [if_pos hc]
  clear hS
  intro w hS
  repeat' (first | (refine pc_cdc_Legal (CLegal_ok k hS ?_); rw [if_pos hk]; clear hS; intro w hS) | (refine pN_neq_s ?_ ?_ <;> intro hc <;> try (exfalso; first | omega | exact hc rfl | exact hc (by assumption) | exact absurd hc (by assumption))) | refine pIf_f ?_ | refine pGd_go (by rfl) ?_ | refine pN_la hS (by rfl) ?_ | refine pN_v (hk := ?_) | fail)
  obtain ⟨a0, a1, a2, a3, a4, a5⟩ := c
  refine pN_mkm hS idV fun mb w hS => ?_
  refine pN_mkm hS nke fun nb w hS => ?_
  refine pN_bDep ?_
  refine pN_bx (z := depC ⟨a0, a1, a2, a3, a4, a5⟩ k mb nb) hS rfl ?_
  clear hS
  intro b w hS
  have hS : Sat E w (depP ⟨a0, a1, a2, a3, a4, a5⟩ b k mb nb [] [] M) := by
    have h1 : Sat E w (cel b ⟨129, depC ⟨a0, a1, a2, a3, a4, a5⟩ k mb nb⟩ :: mp idV mb ([] : List (I32 × Value)) :: mp nke nb ([] : List (NKey × Value)) :: M) := hS.to
    have h2 : Sat E w (cel b ⟨129, depC ⟨a0, a1, a2, a3, a4, a5⟩ k mb nb⟩ :: mp idV mb ([] : List (I32 × Value)) :: mp nke nb ([] : List (NKey × Value)) :: bag [] :: bag [] :: M) := h1.bag_nil.bag_nil.to
    exact h2
  exact hQ _ _ (Dep.shut (d := D.new k) ⟨rfl, rfl⟩ rfl hS)
theorem DNew_no {k : C.K} (hn : ¬ (D.okC c ∧ k.legal)) (hS : Sat E w M) (hQ : ∀ w, Sat E w M → Q (.tuple #[.pointer none, .int .i64 6]) w) :
    Calls Tryz.prog 48 #[.agg c.enc.toArray, .agg #[.int .i64 k.least, .int .i64 k.most, .int .i64 k.bits]] w (retP Q) := by
  refine depot_New.calls ?_
  unfold depot_New.F
  refine pN_bx (z := c.enc) hS rfl ?_
  clear hS
  intro cb w hS
  refine pN_bx (z := [.int .i64 k.least, .int .i64 k.most, .int .i64 k.bits]) hS rfl ?_
  clear hS
  intro kb w hS
  refine pN_la_at (n := 8) hS c.enc rfl rfl ?_
  refine pc_chain_Legal (Chain_ok c hS ?_)
  by_cases hc : D.okC c
  · have hk : ¬ k.legal := fun h => hn ⟨hc, h⟩
    rw [if_pos hc]
    clear hS
    intro w hS
    repeat' (first | (refine pc_cdc_Legal (CLegal_ok k hS ?_); rw [if_neg hk]; clear hS; intro w hS) | (refine pN_neq_s ?_ ?_ <;> intro hc <;> try (exfalso; first | omega | exact hc rfl | exact hc (by assumption) | exact absurd hc (by assumption))) | refine pIf_t ?_ | refine pGd_go (by rfl) ?_ | refine pN_la hS (by rfl) ?_ | refine pN_v (hk := ?_) | fail)
    exact hQ _ hS.to
  · rw [if_neg hc]
    clear hS
    intro w hS
    repeat' (first | (refine pN_neq_s ?_ ?_ <;> intro hc <;> try (exfalso; first | omega | exact hc rfl | exact hc (by assumption) | exact absurd hc (by assumption))) | refine pIf_t ?_ | refine pGd_no (by rfl) ?_ | refine pN_v (hk := ?_) | fail)
    exact hQ _ hS.to

theorem DLegal_ok (n : List UInt8) (hn : n.length ≤ 254) (hQ : Q (.int .i64 0) w) : Calls Tryz.prog 56 #[.string ⟨n.toArray⟩] w (retP Q) := by
  refine depot_Legal.calls ?_
  unfold depot_Legal.F
  repeat' (first | refine pN_slen ?_ | (refine pN_gtr_s ?_ ?_ <;> intro hc <;> try (exfalso; omega)) | refine pIf_f ?_ | fail)
  exact hQ

theorem DSet_ok (n : NKey) (hn : n.1.length ≤ 254) (hS : Sat E w L) [hf : Fnd (Dep c b) L d N] [hr : Rds (cdI 58) N s li] (h0 : li ≠ []) (hl : li.length ≤ 1099511627776)
    (hQ : ∀ w, Sat E w (Dep c b (d.set n.1 li) :: N) → Q (.int .i64 0) w) :
    Calls Tryz.prog 59 #[.pointer (some ⟨b, 0, none⟩), nke n, .slice s.a li.length s.c] w (retP Q) := by
  refine depot_Depot_Set.calls ?_
  unfold depot_Depot_Set.F
  have hS1 := hS.fd (Dep c b)
  clear hS hf
  obtain ⟨mb, nb, pl, nl, ht, hS⟩ := Dep.opn hS1
  clear hS1
  have hlen : li.length ≠ 0 := fun e => h0 (List.length_eq_zero_iff.1 e)
  repeat' (first | (refine pc_depot_Legal (DLegal_ok n.1 hn ?_)) | (refine pc_slices_Clone___api_ID_api_ID_ (SCloneI_ok (s := s) (li := li) hS hl ?_); clear hS; intro s2 w hS) | (refine pN_mup (P := Tryz.prog) (t := 127) (ke := nke) (b := nb) hS n (slv (s2, li)) ?_; clear hS; intro w hS) | ((first | refine pN_eql_s ?_ ?_ | refine pN_neq_s ?_ ?_) <;> intro hc <;> try (exfalso; first | omega | exact hc rfl | exact hc (by assumption) | exact absurd hc (by assumption))) | refine pIf_f ?_ | refine pL_l hS (by first | rfl | assumption) ?_ | (refine pDr_go hS ?_; clear hS; intro w hS) | refine ⟨trivial, ?_⟩ | refine ⟨⟨(by first | exact run_l hS (by first | rfl | assumption) | exact run_st hS (by first | rfl | omega) | exact run_ld1 ha hS | exact fun _ => run_l hS (by rfl) | exact fun _ => run_st hS (by first | rfl | omega) | exact fun _ => run_ld1 ha hS | exact fun h => Bool.noConfusion h), trivial⟩, ?_⟩ | refine pN_v (hk := ?_) | refine pA_v (hk := ?_) | refine ⟨_, ?_, fun _ _ h => h⟩ | fail)
  rw [vals_put] at hS
  have hS : Sat E w (rows (cdI 58) s2 li :: bag (keep (cdI 58) nl) :: cel b ⟨129, depC c d.k mb nb⟩ :: mp idV mb (vals pl) :: mp nke nb (vals (D.upd nl n (s2, li))) :: bag (keep cd_uint8 pl) :: N) := hS.to
  have hS : Sat E w (depP c b d.k mb nb pl (D.upd nl n (s2, li)) N) := (keep_put n hS).to
  have hd : d.set n.1 li = { d with ns := D.upd d.ns n.1 li } := by unfold D.T.set; rw [if_neg h0]
  exact hQ _ (Dep.shut (d := d.set n.1 li) (by rw [hd]; exact ht.set n s2 li) rfl hS)

set_option maxHeartbeats 2000000 in
theorem DGet_ok (hS : Sat E w L) [hf : Fnd (Dep c b) L d N] [hr : Rds (cdI 58) N s li] (hl : li.length ≤ 1099511627776) (hb : ∀ j q, d.get (li.take j) = some q → q.length ≤ 140737488355328)
    (hno : d.get li = none → ∀ w, Sat E w (Dep c b d :: N) → Q (.tuple #[.slice none 0 0, .int .i64 8]) w)
    (hok : ∀ q, d.get li = some q → ∀ s w, Sat E w (rows cd_uint8 s q :: Dep c b d :: N) → Q (.tuple #[.slice s.a q.length s.c, .int .i64 0]) w) :
    Calls Tryz.prog 55 #[.pointer (some ⟨b, 0, none⟩), .slice s.a li.length s.c] w (retP Q) := by
  refine depot_Depot_Get.calls ?_
  unfold depot_Depot_Get.F
  have hS1 := hS.fd (Dep c b)
  clear hS hf
  obtain ⟨mb, nb, pl, nl, ht, hS⟩ := Dep.opn hS1
  clear hS1
  repeat' (first | refine pN_v (hk := ?_) | fail)
  refine ⟨fun v v' w => ∃ (j : Nat) (so : Sl) (q : List UInt8), v = .slice so.a q.length so.c ∧ v' = .int .i64 j ∧ j ≤ li.length ∧ d.get (li.take j) = some q ∧ Sat E w (rows cd_uint8 so q :: depP c b d.k mb nb pl nl N), fun _ v _ => li.length - (RowKit.intOf v).toNat,
    ⟨0, ⟨none, 0⟩, [], rfl, rfl, by omega, by rw [List.take_zero]; rfl, hS.nil cd_uint8.e cd_uint8.size⟩, ?_⟩
  clear hS
  rintro _ _ _ w ⟨j, so, q, rfl, rfl, hj, hg, hS⟩
  by_cases hlt : j < li.length
  · obtain ⟨i, hi⟩ : ∃ i, li[j]? = some i := ⟨li[j], by simp [hlt]⟩
    have hnext := D.get_take (d := d) hi
    have hb1 := hb (j + 1)
    rw [hg] at hnext
    have hh := ht.look i
    have hv0 := vals_get pl i
    repeat' (first | refine pN_ld_at ha hS (i32n i) ?_ | (refine pN_sid hS i (by rfl) ?_; clear hS; intro w hS) | refine pL_la_at (n := 32) hS (bvs i.l) (i32t i) (i32n i) ?_ | refine pN_lko (P := Tryz.prog) (t := 126) (ke := idV) (b := mb) hS i (fun v hv => ?_) (fun hv => ?_) | (refine pN_lss_s ?_ ?_ <;> intro hc <;> try (exfalso; omega)) | refine pIf_t ?_ | refine pIf_f ?_ | refine pL_l hS (by first | rfl | assumption) ?_ | (refine pDr_go hS ?_; clear hS; intro w hS) | (refine pN_nz hS ?_; clear hS; intro a w hS) | refine ⟨trivial, ?_⟩ | refine pN_ixk hS _ (by first | rfl | (exact (Int.toNat_of_nonneg (by omega)).symm)) (by first | rfl | omega | simpa only [go_sem] using True.intro | (simp only [go_sem]; omega)) (by assumption) fun a ha hel => ?_ | refine pN_v (hk := ?_) | refine pA_v (hk := ?_) | fail)
    · rw [hv0] at hv
      cases hl2 : D.look pl i with
      | none => rw [hl2] at hv; cases hv
      | some x =>
        rw [hl2] at hv hh
        obtain ⟨sx, p⟩ := x
        have hv : Value.slice sx.a p.length sx.c = v := Option.some.inj hv
        have hh : D.look d.ps i = some p := hh
        subst hv
        rw [hh] at hnext
        have hnext : d.get (li.take (j + 1)) = some (q ++ p) := hnext
        have hq := hb1 _ hnext
        haveI : RdP cd_uint8 (bag (keep cd_uint8 pl)) sx p := keep_rd hl2
        rw [List.length_append] at hq
        repeat' (first | (refine pN_app hS (by first | rfl | omega | simpa only [go_sem] using True.intro | (simp only [go_sem]; omega)) (by first | rfl | omega | simpa only [go_sem] using True.intro | (simp only [go_sem]; omega)) (by first | omega | (simp only [go_sem]; omega)) ?_; clear hS; intro s w hS) | refine pN_v (hk := ?_) | fail)
        have hS : Sat E w (rows cd_uint8 s (q ++ p) :: depP c b d.k mb nb pl nl N) := hS.to
        exact ⟨⟨j + 1, _, _, rfl, rfl, hlt, hnext, hS⟩, by simp [RowKit.intOf] <;> omega⟩
    · rw [hv0] at hv
      cases hl2 : D.look pl i with
      | some x => rw [hl2] at hv; cases hv
      | none =>
        rw [hl2] at hh
        have hh : D.look d.ps i = none := hh
        rw [hh] at hnext
        have hS : Sat E w (depP c b d.k mb nb pl nl N) := hS.to
        exact hno (D.get_none (j := j + 1) hnext) _ (Dep.shut ht rfl hS)
  · obtain rfl : j = li.length := by omega
    rw [List.take_length] at hg
    repeat' (first | (refine pN_lss_s ?_ ?_ <;> intro hc <;> try (exfalso; omega)) | refine pIf_f ?_ | fail)
    have hS : Sat E w (depP c b d.k mb nb pl nl (rows cd_uint8 so q :: N)) := hS.to
    exact hok _ hg _ _ (Dep.shut ht rfl hS).to
end
end Go.Proofs.YtikmogfhhggafaaGreatDoor

namespace Go.Proofs.YtikmogfhhggafaaGreatDoor
open Go
set_option maxRecDepth 100000

def sha_Sum.H : Hints := { cut := fun  | _ => none, loop := fun | 3 => ([9], 130592) | _ => ([], 0), order := fun  | _ => [] }
def sha_Sum.F [Pan] (x0 : Value) (w : World) (Q : Value → World → Prop) : Prop :=
 pN Tryz.prog (oAlloc 57) w fun x2 w1 =>
 pN Tryz.prog (oCall 92 []) w1 fun x6 w2 =>
 pN Tryz.prog (oBi .len #[71] 3 [false] [x0]) w2 fun x8 w3 =>
 ∃ (L3 : Value → World → Prop) (m3 : Value → World → Nat),
 L3 (.int .i64 0) w3 ∧
 ∀ (_k3 : Env) (v9l3 : Value) (w4 : World), L3 v9l3 w4 →
 pN Tryz.prog (oBin .lss 3 (.tmp 9) (.tmp 8) v9l3 x8) w4 fun x10 w5 =>
 pIf x10
 (pN Tryz.prog (oIdx 71 x0 v9l3) w5 fun x11 w6 =>
 pN Tryz.prog (oLoad 47 x11) w6 fun x12 w7 =>
 pN Tryz.prog (oCall 93 [x6, x12]) w7 fun _ w8 =>
 pN Tryz.prog (oBin .add 3 (.tmp 9) (.const (.int .i64 1)) v9l3 (.int .i64 1)) w8 fun x16 w9 =>
 (L3 x16 w9 ∧ m3 x16 w9 < m3 v9l3 w4))
 (pN Tryz.prog (oCall 94 [x6]) w5 fun x18 w10 =>
 pN Tryz.prog (oStore 57 x2 x18) w10 fun _ w11 =>
 pL Tryz.prog (oRes 57 x2) w11 fun r2 =>
 Q r2 w11)
theorem sha_Sum.calls [Pan] {x0 : Value} {w : World} {Q : Value → World → Prop} (h : sha_Sum.F x0 w Q) : Calls Tryz.prog 52 #[x0] w (retP Q) := calls_lift mixed sha_Sum.H [x0] Tryz.func52 (by kernel_rfl) (by kernel_rfl) h

def sha_New.F [Pan]  (w : World) (Q : Value → World → Prop) : Prop :=
 pN Tryz.prog (oLoad 214 (.pointer (some ⟨0, 0, none⟩))) w fun x1 w1 =>
 pN Tryz.prog (oBuild 217 [(0, x1)]) w1 fun x2 w2 =>
 pN Tryz.prog (oBox 217 x2) w2 fun x3 w3 =>
 Q x3 w3
theorem sha_New.calls [Pan]  {w : World} {Q : Value → World → Prop} (h : sha_New.F  w Q) : Calls Tryz.prog 92 #[] w (retP Q) := calls_lift mixed .z [] Tryz.func92 (by kernel_rfl) (by kernel_rfl) h

def sha_Hash_Write.H : Hints := { cut := fun | 8 => some ([], 35184372086880) | _ => none, loop := fun | 1 => ([9], 70368744177248) | _ => ([], 0), order := fun | 7 => [(0, 0), (1, 1), (2, 3), (3, 7), (4, 15), (5, 31), (6, 63), (7, 127), (8, 255), (9, 511), (10, 1023), (11, 2047), (12, 4095)] | _ => [] }
def sha_Hash_Write.F [Pan] (x0 x1 : Value) (w : World) (Q : Value → World → Prop) : Prop :=
 pN Tryz.prog (oBi .len #[47] 3 [false] [x1]) w fun x8 w1 =>
 ∃ (L1 : Value → World → Prop) (m1 : Value → World → Nat),
 L1 (.int .i64 0) w1 ∧
 ∀ (_k1 : Env) (v9l1 : Value) (w2 : World), L1 v9l1 w2 →
 pN Tryz.prog (oBin .lss 3 (.tmp 9) (.tmp 8) v9l1 x8) w2 fun x10 w3 =>
 pIf x10
 (∃ I8 : World → Prop,
 (pN Tryz.prog (oIdx 47 x1 v9l1) w3 fun x11 w4 =>
 pN Tryz.prog (oLoad 5 x11) w4 fun x12 w5 =>
 pN Tryz.prog (oNil x0) w5 fun x14 w6 =>
 pN Tryz.prog (oFld 217 x14 2) w6 fun x15 w7 =>
 pN Tryz.prog (oLoad 3 x15) w7 fun x16 w8 =>
 pN Tryz.prog (oBin .rem 3 (.tmp 16) (.const (.int .i64 64)) x16 (.int .i64 64)) w8 fun x17 w9 =>
 pN Tryz.prog (oNil x0) w9 fun x21 w10 =>
 pN Tryz.prog (oFld 217 x21 1) w10 fun x22 w11 =>
 pN Tryz.prog (oIdx 215 x22 x17) w11 fun x23 w12 =>
 pN Tryz.prog (oStore 5 x23 x12) w12 fun _ w13 =>
 pN Tryz.prog (oNil x0) w13 fun x25 w14 =>
 pN Tryz.prog (oFld 217 x25 2) w14 fun x26 w15 =>
 pN Tryz.prog (oLoad 3 x26) w15 fun x27 w16 =>
 pN Tryz.prog (oBin .add 3 (.tmp 27) (.const (.int .i64 1)) x27 (.int .i64 1)) w16 fun x28 w17 =>
 pN Tryz.prog (oNil x0) w17 fun x29 w18 =>
 pN Tryz.prog (oFld 217 x29 2) w18 fun x30 w19 =>
 pN Tryz.prog (oStore 3 x30 x28) w19 fun _ w20 =>
 pN Tryz.prog (oBin .eql 3 (.tmp 31) (.const (.int .i64 63)) x17 (.int .i64 63)) w20 fun x32 w21 =>
 pIf x32
 (pDr w21 fun w22 =>
 pA Tryz.prog (oNil x0) fun x35 =>
 pA Tryz.prog (oFld 217 x35 0) fun x36 =>
 pL Tryz.prog (oLoad 214 x36) w22 fun x37 =>
 pA Tryz.prog (oNil x0) fun x39 =>
 pA Tryz.prog (oFld 217 x39 1) fun x40 =>
 pL Tryz.prog (oLoad 215 x40) w22 fun x41 =>
 pN Tryz.prog (oCall 125 [x37, x41]) w22 fun x42 w23 =>
 (True) ∧ (pA Tryz.prog (oNil x0) fun x43 =>
 pA Tryz.prog (oFld 217 x43 0) fun x44 =>
 pN Tryz.prog (oStore 214 x44 x42) w23 fun _ w24 =>
 (True) ∧ (I8 w24)))
 (I8 w21)) ∧
 ∀ (_j8 : Env) (w25 : World), I8 w25 →
 pN Tryz.prog (oBin .add 3 (.tmp 9) (.const (.int .i64 1)) v9l1 (.int .i64 1)) w25 fun x45 w26 =>
 (L1 x45 w26 ∧ m1 x45 w26 < m1 v9l1 w2))
 (Q (.tuple #[]) w3)
theorem sha_Hash_Write.calls [Pan] {x0 x1 : Value} {w : World} {Q : Value → World → Prop} (h : sha_Hash_Write.F x0 x1 w Q) : Calls Tryz.prog 93 #[x0, x1] w (retP Q) := calls_lift mixed sha_Hash_Write.H [x0, x1] Tryz.func93 (by kernel_rfl) (by kernel_rfl) h

def sha_Hash_Sum.H : Hints := { cut := fun  | _ => none, loop := fun | 5 => ([19], 549755289824) | 8 => ([23], 274869518464) | _ => ([], 0), order := fun  | _ => [] }
def sha_Hash_Sum.F [Pan] (x0 : Value) (w : World) (Q : Value → World → Prop) : Prop :=
 pN Tryz.prog (oAlloc 57) w fun x2 w1 =>
 pN Tryz.prog (oNil x0) w1 fun x9 w2 =>
 pN Tryz.prog (oLoad 217 x9) w2 fun x10 w3 =>
 pN Tryz.prog (oAlloc 217) w3 fun x3 w4 =>
 pN Tryz.prog (oStore 217 x3 x10) w4 fun _ w5 =>
 pN Tryz.prog (oNil x0) w5 fun x12 w6 =>
 pN Tryz.prog (oFld 217 x12 2) w6 fun x13 w7 =>
 pN Tryz.prog (oLoad 3 x13) w7 fun x14 w8 =>
 pN Tryz.prog (oCall 126 [x14]) w8 fun x15 w9 =>
 pN Tryz.prog (oCall 93 [x3, x15]) w9 fun _ w10 =>
 pN Tryz.prog (oAlloc 57) w10 fun x4 w11 =>
 pN Tryz.prog (oFld 217 x3 0) w11 fun x17 w12 =>
 pN Tryz.prog (oLoad 214 x17) w12 fun x18 w13 =>
 ∃ (L5 : Value → World → Prop) (m5 : Value → World → Nat),
 L5 (.int .i64 0) w13 ∧
 ∀ (_k5 : Env) (v19l5 : Value) (w14 : World), L5 v19l5 w14 →
 pN Tryz.prog (oBin .lss 3 (.tmp 19) (.const (.int .i64 8)) v19l5 (.int .i64 8)) w14 fun x20 w15 =>
 pIf x20
 (pN Tryz.prog (oIndex 214 x18 v19l5) w15 fun x22 w16 =>
 ∃ (L8 : Value → World → Prop) (m8 : Value → World → Nat),
 L8 (.int .i64 0) w16 ∧
 ∀ (_k8 : Env) (v23l8 : Value) (w17 : World), L8 v23l8 w17 →
 pN Tryz.prog (oBin .lss 3 (.tmp 23) (.const (.int .i64 4)) v23l8 (.int .i64 4)) w17 fun x24 w18 =>
 pIf x24
 (pN Tryz.prog (oBin .mul 3 (.const (.int .i64 4)) (.tmp 26) (.int .i64 4) v19l5) w18 fun x27 w19 =>
 pN Tryz.prog (oBin .add 3 (.tmp 27) (.tmp 28) x27 v23l8) w19 fun x29 w20 =>
 pN Tryz.prog (oBin .mul 3 (.const (.int .i64 8)) (.tmp 31) (.int .i64 8) v23l8) w20 fun x32 w21 =>
 pN Tryz.prog (oBin .sub 3 (.const (.int .i64 24)) (.tmp 32) (.int .i64 24) x32) w21 fun x33 w22 =>
 pN Tryz.prog (oBin .shr 213 (.tmp 30) (.tmp 33) x22 x33) w22 fun x34 w23 =>
 pN Tryz.prog (oConv 213 5 x34) w23 fun x35 w24 =>
 pN Tryz.prog (oIdx 57 x4 x29) w24 fun x36 w25 =>
 pN Tryz.prog (oStore 5 x36 x35) w25 fun _ w26 =>
 pN Tryz.prog (oBin .add 3 (.tmp 23) (.const (.int .i64 1)) v23l8 (.int .i64 1)) w26 fun x37 w27 =>
 (L8 x37 w27 ∧ m8 x37 w27 < m8 v23l8 w17))
 (pN Tryz.prog (oBin .add 3 (.tmp 19) (.const (.int .i64 1)) v19l5 (.int .i64 1)) w18 fun x38 w28 =>
 (L5 x38 w28 ∧ m5 x38 w28 < m5 v19l5 w14)))
 (pN Tryz.prog (oLoad 57 x4) w15 fun x39 w29 =>
 pN Tryz.prog (oStore 57 x2 x39) w29 fun _ w30 =>
 pL Tryz.prog (oRes 57 x2) w30 fun r2 =>
 Q r2 w30)
theorem sha_Hash_Sum.calls [Pan] {x0 : Value} {w : World} {Q : Value → World → Prop} (h : sha_Hash_Sum.F x0 w Q) : Calls Tryz.prog 94 #[x0] w (retP Q) := calls_lift mixed sha_Hash_Sum.H [x0] Tryz.func94 (by kernel_rfl) (by kernel_rfl) h

def sha_Step.H : Hints := { cut := fun | 11 => some ([], 158456325028528675187071125440) | _ => none, loop := fun | 3 => ([22], 316912650057057350374171609024) | 14 => ([99], 191561942608236107294792744568488533837641641923440640) | 22 => ([177], 784446154980726859372178884522564513364842088167733460992) | _ => ([], 0), order := fun | 6 => [(0, 0), (1, 1), (2, 3), (3, 7), (4, 15), (5, 31), (6, 63), (7, 127), (8, 255), (9, 511), (10, 1023), (11, 2047), (12, 4095), (13, 8191), (14, 16383), (15, 32767), (16, 65535), (17, 131071), (18, 262143), (19, 524287), (20, 1048575), (21, 2097151), (22, 4194303), (23, 8388607), (24, 16777215), (25, 33554431), (26, 67108863), (27, 134217727), (28, 268435455), (29, 536870911), (30, 1073741823), (31, 2147483647)] | 7 => [(0, 0), (1, 1), (2, 3), (3, 7), (4, 15), (5, 31), (6, 63), (7, 127), (8, 255), (9, 511)] | 10 => [(0, 0), (1, 1), (2, 3), (3, 7), (4, 15), (5, 31), (6, 63), (7, 127), (8, 255), (9, 511), (10, 1023), (11, 2047), (12, 4095), (13, 8191), (14, 16383), (15, 32767)] | 16 => [(0, 0), (1, 1), (2, 3), (3, 7), (4, 15), (5, 31), (6, 63), (7, 127), (8, 255), (9, 511), (10, 1023), (11, 2047), (12, 4095), (13, 8191), (14, 16383), (15, 32767), (16, 65535), (17, 131071)] | 17 => [(0, 0), (1, 1), (2, 3), (4, 7), (7, 23), (11, 151), (12, 2199), (13, 6295), (14, 14487), (15, 30871), (16, 63639), (17, 129175), (18, 260247), (20, 522391), (21, 1570967), (22, 3668119), (24, 7862423), (25, 24639639), (26, 58194071), (3, 125302935), (5, 125302943), (6, 125302975), (8, 125303039), (9, 125303295), (10, 125303807), (19, 125304831), (23, 125829119), (27, 134217727), (28, 268435455)] | 24 => [(0, 0), (1, 1), (2, 3), (3, 7), (4, 15), (5, 31), (6, 63), (7, 127), (8, 255)] | _ => [] }
def sha_Step.F [Pan] (x0 x1 : Value) (w : World) (Q : Value → World → Prop) : Prop :=
 pN Tryz.prog (oBox 214 x0) w fun x2 w1 =>
 pN Tryz.prog (oBox 215 x1) w1 fun x3 w2 =>
 pN Tryz.prog (oAlloc 214) w2 fun x4 w3 =>
 pN Tryz.prog (oAlloc 257) w3 fun x5 w4 =>
 ∃ (L3 : Value → World → Prop) (m3 : Value → World → Nat),
 L3 (.int .i64 0) w4 ∧
 ∀ (_k3 : Env) (v22l3 : Value) (w5 : World), L3 v22l3 w5 →
 pN Tryz.prog (oBin .lss 3 (.tmp 22) (.const (.int .i64 64)) v22l3 (.int .i64 64)) w5 fun x23 w6 =>
 pIf x23
 (∃ I11 : World → Prop,
 (pN Tryz.prog (oBin .lss 3 (.tmp 25) (.const (.int .i64 16)) v22l3 (.int .i64 16)) w6 fun x26 w7 =>
 pIf x26
 (pDr w7 fun w8 =>
 pA Tryz.prog (oBin .mul 3 (.const (.int .i64 4)) (.tmp 28) (.int .i64 4) v22l3) fun x29 =>
 pA Tryz.prog (oIdx 215 x3 x29) fun x30 =>
 pL Tryz.prog (oLoad 5 x30) w8 fun x31 =>
 pL Tryz.prog (oConv 5 213 x31) w8 fun x32 =>
 pA Tryz.prog (oBin .shl 213 (.tmp 32) (.const (.int .u64 24)) x32 (.int .u64 24)) fun x33 =>
 pA Tryz.prog (oBin .mul 3 (.const (.int .i64 4)) (.tmp 34) (.int .i64 4) v22l3) fun x35 =>
 pA Tryz.prog (oBin .add 3 (.tmp 35) (.const (.int .i64 1)) x35 (.int .i64 1)) fun x36 =>
 pA Tryz.prog (oIdx 215 x3 x36) fun x37 =>
 pL Tryz.prog (oLoad 5 x37) w8 fun x38 =>
 pL Tryz.prog (oConv 5 213 x38) w8 fun x39 =>
 pA Tryz.prog (oBin .shl 213 (.tmp 39) (.const (.int .u64 16)) x39 (.int .u64 16)) fun x40 =>
 pA Tryz.prog (oBin .or 213 (.tmp 33) (.tmp 40) x33 x40) fun x41 =>
 pA Tryz.prog (oBin .mul 3 (.const (.int .i64 4)) (.tmp 42) (.int .i64 4) v22l3) fun x43 =>
 pA Tryz.prog (oBin .add 3 (.tmp 43) (.const (.int .i64 2)) x43 (.int .i64 2)) fun x44 =>
 pA Tryz.prog (oIdx 215 x3 x44) fun x45 =>
 pL Tryz.prog (oLoad 5 x45) w8 fun x46 =>
 pL Tryz.prog (oConv 5 213 x46) w8 fun x47 =>
 pA Tryz.prog (oBin .shl 213 (.tmp 47) (.const (.int .u64 8)) x47 (.int .u64 8)) fun x48 =>
 pA Tryz.prog (oBin .or 213 (.tmp 41) (.tmp 48) x41 x48) fun x49 =>
 pA Tryz.prog (oBin .mul 3 (.const (.int .i64 4)) (.tmp 50) (.int .i64 4) v22l3) fun x51 =>
 pA Tryz.prog (oBin .add 3 (.tmp 51) (.const (.int .i64 3)) x51 (.int .i64 3)) fun x52 =>
 pA Tryz.prog (oIdx 215 x3 x52) fun x53 =>
 pL Tryz.prog (oLoad 5 x53) w8 fun x54 =>
 pL Tryz.prog (oConv 5 213 x54) w8 fun x55 =>
 pA Tryz.prog (oBin .or 213 (.tmp 49) (.tmp 55) x49 x55) fun x56 =>
 pA Tryz.prog (oIdx 257 x5 v22l3) fun x57 =>
 pN Tryz.prog (oStore 213 x57 x56) w8 fun _ w9 =>
 (True) ∧ (I11 w9))
 (pDr w7 fun w10 =>
 pA Tryz.prog (oBin .sub 3 (.tmp 58) (.const (.int .i64 15)) v22l3 (.int .i64 15)) fun x59 =>
 pA Tryz.prog (oIdx 257 x5 x59) fun x60 =>
 pL Tryz.prog (oLoad 213 x60) w10 fun x61 =>
 pA Tryz.prog (oBin .sub 3 (.tmp 62) (.const (.int .i64 2)) v22l3 (.int .i64 2)) fun x63 =>
 pA Tryz.prog (oIdx 257 x5 x63) fun x64 =>
 pL Tryz.prog (oLoad 213 x64) w10 fun x65 =>
 pN Tryz.prog (oCall 175 [x61, (.int .i64 (-7))]) w10 fun x67 w11 =>
 pN Tryz.prog (oCall 175 [x61, (.int .i64 (-18))]) w11 fun x69 w12 =>
 pN Tryz.prog (oBin .xor 213 (.tmp 67) (.tmp 69) x67 x69) w12 fun x70 w13 =>
 pN Tryz.prog (oBin .shr 213 (.tmp 71) (.const (.int .u64 3)) x61 (.int .u64 3)) w13 fun x72 w14 =>
 pN Tryz.prog (oBin .xor 213 (.tmp 70) (.tmp 72) x70 x72) w14 fun x73 w15 =>
 pN Tryz.prog (oCall 175 [x65, (.int .i64 (-17))]) w15 fun x75 w16 =>
 pN Tryz.prog (oCall 175 [x65, (.int .i64 (-19))]) w16 fun x77 w17 =>
 pN Tryz.prog (oBin .xor 213 (.tmp 75) (.tmp 77) x75 x77) w17 fun x78 w18 =>
 pN Tryz.prog (oBin .shr 213 (.tmp 79) (.const (.int .u64 10)) x65 (.int .u64 10)) w18 fun x80 w19 =>
 pN Tryz.prog (oBin .xor 213 (.tmp 78) (.tmp 80) x78 x80) w19 fun x81 w20 =>
 pDr w20 fun w21 =>
 pA Tryz.prog (oBin .sub 3 (.tmp 84) (.const (.int .i64 7)) v22l3 (.int .i64 7)) fun x85 =>
 pA Tryz.prog (oIdx 257 x5 x85) fun x86 =>
 pL Tryz.prog (oLoad 213 x86) w21 fun x87 =>
 pA Tryz.prog (oBin .add 213 (.tmp 83) (.tmp 87) x81 x87) fun x88 =>
 pA Tryz.prog (oBin .add 213 (.tmp 88) (.tmp 89) x88 x73) fun x90 =>
 pA Tryz.prog (oBin .sub 3 (.tmp 91) (.const (.int .i64 16)) v22l3 (.int .i64 16)) fun x92 =>
 pA Tryz.prog (oIdx 257 x5 x92) fun x93 =>
 pL Tryz.prog (oLoad 213 x93) w21 fun x94 =>
 pA Tryz.prog (oBin .add 213 (.tmp 90) (.tmp 94) x90 x94) fun x95 =>
 pA Tryz.prog (oIdx 257 x5 v22l3) fun x96 =>
 pN Tryz.prog (oStore 213 x96 x95) w21 fun _ w22 =>
 (True) ∧ (I11 w22))) ∧
 ∀ (_j11 : Env) (w23 : World), I11 w23 →
 pN Tryz.prog (oBin .add 3 (.tmp 22) (.const (.int .i64 1)) v22l3 (.int .i64 1)) w23 fun x97 w24 =>
 (L3 x97 w24 ∧ m3 x97 w24 < m3 v22l3 w5))
 (pN Tryz.prog (oLoad 214 x2) w6 fun x98 w25 =>
 pN Tryz.prog (oAlloc 214) w25 fun x11 w26 =>
 pN Tryz.prog (oStore 214 x11 x98) w26 fun _ w27 =>
 ∃ (L14 : Value → World → Prop) (m14 : Value → World → Nat),
 L14 (.int .i64 0) w27 ∧
 ∀ (_k14 : Env) (v99l14 : Value) (w28 : World), L14 v99l14 w28 →
 pN Tryz.prog (oBin .lss 3 (.tmp 99) (.const (.int .i64 64)) v99l14 (.int .i64 64)) w28 fun x100 w29 =>
 pIf x100
 (pDr w29 fun w30 =>
 pA Tryz.prog (oIdx 214 x11 (.int .i64 0)) fun x102 =>
 pL Tryz.prog (oLoad 213 x102) w30 fun x103 =>
 pA Tryz.prog (oIdx 214 x11 (.int .i64 1)) fun x104 =>
 pL Tryz.prog (oLoad 213 x104) w30 fun x105 =>
 pA Tryz.prog (oIdx 214 x11 (.int .i64 2)) fun x106 =>
 pL Tryz.prog (oLoad 213 x106) w30 fun x107 =>
 pA Tryz.prog (oIdx 214 x11 (.int .i64 4)) fun x108 =>
 pL Tryz.prog (oLoad 213 x108) w30 fun x109 =>
 pA Tryz.prog (oIdx 214 x11 (.int .i64 5)) fun x110 =>
 pL Tryz.prog (oLoad 213 x110) w30 fun x111 =>
 pA Tryz.prog (oIdx 214 x11 (.int .i64 6)) fun x112 =>
 pL Tryz.prog (oLoad 213 x112) w30 fun x113 =>
 pDr w30 fun w31 =>
 pA Tryz.prog (oIdx 214 x11 (.int .i64 7)) fun x114 =>
 pL Tryz.prog (oLoad 213 x114) w31 fun x115 =>
 pA Tryz.prog (oBin .and 213 (.tmp 125) (.tmp 126) x109 x111) fun x127 =>
 pA Tryz.prog (oUn .xor x109) fun x129 =>
 pA Tryz.prog (oBin .and 213 (.tmp 129) (.tmp 130) x129 x113) fun x131 =>
 pA Tryz.prog (oBin .xor 213 (.tmp 127) (.tmp 131) x127 x131) fun x132 =>
 pA Tryz.prog (oIdx 257 (.pointer (some ⟨2, 0, none⟩)) v99l14) fun x135 =>
 pL Tryz.prog (oLoad 213 x135) w31 fun x136 =>
 pA Tryz.prog (oIdx 257 x5 v99l14) fun x139 =>
 pL Tryz.prog (oLoad 213 x139) w31 fun x140 =>
 pN Tryz.prog (oCall 175 [x109, (.int .i64 (-6))]) w31 fun x117 w32 =>
 ((Sem.run Tryz.prog (oLoad 213 x139) w32 = .ok (.value x140) w32) ∧ (Sem.run Tryz.prog (oLoad 213 x135) w32 = .ok (.value x136) w32) ∧ (Sem.run Tryz.prog (oLoad 213 x114) w32 = .ok (.value x115) w32) ∧ True) ∧ (pN Tryz.prog (oCall 175 [x109, (.int .i64 (-11))]) w32 fun x119 w33 =>
 ((Sem.run Tryz.prog (oLoad 213 x139) w33 = .ok (.value x140) w33) ∧ (Sem.run Tryz.prog (oLoad 213 x135) w33 = .ok (.value x136) w33) ∧ (Sem.run Tryz.prog (oLoad 213 x114) w33 = .ok (.value x115) w33) ∧ True) ∧ (pA Tryz.prog (oBin .xor 213 (.tmp 117) (.tmp 119) x117 x119) fun x120 =>
 pN Tryz.prog (oCall 175 [x109, (.int .i64 (-25))]) w33 fun x122 w34 =>
 ((Sem.run Tryz.prog (oLoad 213 x139) w34 = .ok (.value x140) w34) ∧ (Sem.run Tryz.prog (oLoad 213 x135) w34 = .ok (.value x136) w34) ∧ (Sem.run Tryz.prog (oLoad 213 x114) w34 = .ok (.value x115) w34) ∧ True) ∧ (pA Tryz.prog (oBin .xor 213 (.tmp 120) (.tmp 122) x120 x122) fun x123 =>
 pA Tryz.prog (oBin .add 213 (.tmp 115) (.tmp 123) x115 x123) fun x124 =>
 pA Tryz.prog (oBin .add 213 (.tmp 124) (.tmp 132) x124 x132) fun x133 =>
 pA Tryz.prog (oBin .add 213 (.tmp 133) (.tmp 136) x133 x136) fun x137 =>
 pA Tryz.prog (oBin .add 213 (.tmp 137) (.tmp 140) x137 x140) fun x141 =>
 pN Tryz.prog (oCall 175 [x103, (.int .i64 (-2))]) w34 fun x143 w35 =>
 pN Tryz.prog (oCall 175 [x103, (.int .i64 (-13))]) w35 fun x145 w36 =>
 pN Tryz.prog (oBin .xor 213 (.tmp 143) (.tmp 145) x143 x145) w36 fun x146 w37 =>
 pN Tryz.prog (oCall 175 [x103, (.int .i64 (-22))]) w37 fun x148 w38 =>
 pN Tryz.prog (oBin .xor 213 (.tmp 146) (.tmp 148) x146 x148) w38 fun x149 w39 =>
 pN Tryz.prog (oBin .and 213 (.tmp 150) (.tmp 151) x103 x105) w39 fun x152 w40 =>
 pN Tryz.prog (oBin .and 213 (.tmp 153) (.tmp 154) x103 x107) w40 fun x155 w41 =>
 pN Tryz.prog (oBin .xor 213 (.tmp 152) (.tmp 155) x152 x155) w41 fun x156 w42 =>
 pN Tryz.prog (oBin .and 213 (.tmp 157) (.tmp 158) x105 x107) w42 fun x159 w43 =>
 pN Tryz.prog (oBin .xor 213 (.tmp 156) (.tmp 159) x156 x159) w43 fun x160 w44 =>
 pN Tryz.prog (oBin .add 213 (.tmp 149) (.tmp 160) x149 x160) w44 fun x161 w45 =>
 pN Tryz.prog (oBin .add 213 (.tmp 162) (.tmp 163) x141 x161) w45 fun x164 w46 =>
 pN Tryz.prog (oIdx 214 x11 (.int .i64 3)) w46 fun x168 w47 =>
 pN Tryz.prog (oLoad 213 x168) w47 fun x169 w48 =>
 pN Tryz.prog (oBin .add 213 (.tmp 169) (.tmp 170) x169 x141) w48 fun x171 w49 =>
 pN Tryz.prog (oBuild 214 [(0, x164), (1, x103), (2, x105), (3, x107), (4, x171), (5, x109), (6, x111), (7, x113)]) w49 fun x175 w50 =>
 pN Tryz.prog (oStore 214 x11 x175) w50 fun _ w51 =>
 pN Tryz.prog (oBin .add 3 (.tmp 99) (.const (.int .i64 1)) v99l14 (.int .i64 1)) w51 fun x176 w52 =>
 (L14 x176 w52 ∧ m14 x176 w52 < m14 v99l14 w28)))))
 (∃ (L22 : Value → World → Prop) (m22 : Value → World → Nat),
 L22 (.int .i64 0) w29 ∧
 ∀ (_k22 : Env) (v177l22 : Value) (w53 : World), L22 v177l22 w53 →
 pN Tryz.prog (oBin .lss 3 (.tmp 177) (.const (.int .i64 8)) v177l22 (.int .i64 8)) w53 fun x178 w54 =>
 pIf x178
 (pDr w54 fun w55 =>
 pA Tryz.prog (oIdx 214 x11 v177l22) fun x181 =>
 pL Tryz.prog (oLoad 213 x181) w55 fun x182 =>
 pA Tryz.prog (oIdx 214 x2 v177l22) fun x184 =>
 pL Tryz.prog (oLoad 213 x184) w55 fun x185 =>
 pA Tryz.prog (oBin .add 213 (.tmp 182) (.tmp 185) x182 x185) fun x186 =>
 pA Tryz.prog (oIdx 214 x11 v177l22) fun x187 =>
 pN Tryz.prog (oStore 213 x187 x186) w55 fun _ w56 =>
 (True) ∧ (pN Tryz.prog (oBin .add 3 (.tmp 177) (.const (.int .i64 1)) v177l22 (.int .i64 1)) w56 fun x188 w57 =>
 (L22 x188 w57 ∧ m22 x188 w57 < m22 v177l22 w53)))
 (pN Tryz.prog (oLoad 214 x11) w54 fun x189 w58 =>
 pN Tryz.prog (oStore 214 x4 x189) w58 fun _ w59 =>
 pL Tryz.prog (oRes 214 x4) w59 fun r4 =>
 Q r4 w59)))
theorem sha_Step.calls [Pan] {x0 x1 : Value} {w : World} {Q : Value → World → Prop} (h : sha_Step.F x0 x1 w Q) : Calls Tryz.prog 125 #[x0, x1] w (retP Q) := calls_lift mixed sha_Step.H [x0, x1] Tryz.func125 (by kernel_rfl) (by kernel_rfl) h

def sha_Pad.H : Hints := { cut := fun  | _ => none, loop := fun | 7 => ([18], 68719214624) | _ => ([], 0), order := fun  | _ => [] }
def sha_Pad.F [Pan] (x0 : Value) (w : World) (Q : Value → World → Prop) : Prop :=
 pN Tryz.prog (oBin .lss 3 (.tmp 6) (.const (.int .i64 0)) x0 (.int .i64 0)) w fun x7 w1 =>
 pIf x7
 (Q (.slice none 0 0) w1)
 (pN Tryz.prog (oBin .rem 3 (.tmp 8) (.const (.int .i64 64)) x0 (.int .i64 64)) w1 fun x9 w2 =>
 pN Tryz.prog (oBin .sub 3 (.const (.int .i64 119)) (.tmp 9) (.int .i64 119) x9) w2 fun x10 w3 =>
 pN Tryz.prog (oBin .rem 3 (.tmp 10) (.const (.int .i64 64)) x10 (.int .i64 64)) w3 fun x11 w4 =>
 pN Tryz.prog (oBin .add 3 (.const (.int .i64 1)) (.tmp 12) (.int .i64 1) x11) w4 fun x13 w5 =>
 pN Tryz.prog (oBin .add 3 (.tmp 13) (.const (.int .i64 8)) x13 (.int .i64 8)) w5 fun x14 w6 =>
 pN Tryz.prog (oMk 47 x14 x14) w6 fun x15 w7 =>
 pN Tryz.prog (oIdx 47 x15 (.int .i64 0)) w7 fun x17 w8 =>
 pN Tryz.prog (oStore 5 x17 (bv 128)) w8 fun _ w9 =>
 ∃ (L7 : Value → World → Prop) (m7 : Value → World → Nat),
 L7 (.int .i64 0) w9 ∧
 ∀ (_k7 : Env) (v18l7 : Value) (w10 : World), L7 v18l7 w10 →
 pN Tryz.prog (oBin .lss 3 (.tmp 18) (.const (.int .i64 8)) v18l7 (.int .i64 8)) w10 fun x19 w11 =>
 pIf x19
 (pN Tryz.prog (oBin .add 3 (.const (.int .i64 1)) (.tmp 22) (.int .i64 1) x11) w11 fun x23 w12 =>
 pN Tryz.prog (oBin .add 3 (.tmp 23) (.tmp 24) x23 v18l7) w12 fun x25 w13 =>
 pN Tryz.prog (oConv 3 212 x0) w13 fun x27 w14 =>
 pN Tryz.prog (oBin .shl 212 (.tmp 27) (.const (.int .u64 3)) x27 (.int .u64 3)) w14 fun x28 w15 =>
 pN Tryz.prog (oBin .mul 3 (.const (.int .i64 8)) (.tmp 29) (.int .i64 8) v18l7) w15 fun x30 w16 =>
 pN Tryz.prog (oBin .sub 3 (.const (.int .i64 56)) (.tmp 30) (.int .i64 56) x30) w16 fun x31 w17 =>
 pN Tryz.prog (oBin .shr 212 (.tmp 28) (.tmp 31) x28 x31) w17 fun x32 w18 =>
 pN Tryz.prog (oConv 212 5 x32) w18 fun x33 w19 =>
 pN Tryz.prog (oIdx 47 x15 x25) w19 fun x34 w20 =>
 pN Tryz.prog (oStore 5 x34 x33) w20 fun _ w21 =>
 pN Tryz.prog (oBin .add 3 (.tmp 18) (.const (.int .i64 1)) v18l7 (.int .i64 1)) w21 fun x35 w22 =>
 (L7 x35 w22 ∧ m7 x35 w22 < m7 v18l7 w10))
 (Q x15 w11))
theorem sha_Pad.calls [Pan] {x0 : Value} {w : World} {Q : Value → World → Prop} (h : sha_Pad.F x0 w Q) : Calls Tryz.prog 126 #[x0] w (retP Q) := calls_lift mixed sha_Pad.H [x0] Tryz.func126 (by kernel_rfl) (by kernel_rfl) h

end Go.Proofs.YtikmogfhhggafaaGreatDoor
