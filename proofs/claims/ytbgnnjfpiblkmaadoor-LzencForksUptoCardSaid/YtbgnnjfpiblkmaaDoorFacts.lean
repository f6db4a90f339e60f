/-
  Closed facts of the translation, under names. Printed by a program of mine (facts.py).
-/
import Derived.Test.YtbgnnjfpiblkmaaDoorRows
import Derived.Test.YtbgnnjfpiblkmaaDoorKey
import Derived.Test.YtbgnnjfpiblkmaaDoorDefer
namespace Go.Proofs.YtbgnnjfpiblkmaaDoor
open Go
set_option linter.unusedSimpArgs false
set_option linter.unnecessarySimpa false
set_option linter.unusedSectionVars false
set_option linter.unusedVariables false

theorem mixed : Tryd.prog.follows .mixedOrders = true := by kernel_rfl
section
variable [Pan] {w : World} {K : Value → World → Prop} {J : Value → Prop}

theorem un_int : Tryd.prog.underlying 3 = some (.int .i64) := Tryd.underlying3
theorem na_int (w : World) : (isAgg 3).run Tryd.prog w = .ok false w := Tryd.isAgg3 w
theorem sz_int (w : World) : (sizeOf 3).run Tryd.prog w = .ok 1 w := Tryd.sizeOf3 w
theorem zv_int (w : World) : (zeroValue 3).run Tryd.prog w = .ok (.int .i64 0) w := Tryd.zeroValue3 w
theorem un_bool : Tryd.prog.underlying 4 = some (.bool) := Tryd.underlying4
theorem na_bool (w : World) : (isAgg 4).run Tryd.prog w = .ok false w := Tryd.isAgg4 w
theorem sz_bool (w : World) : (sizeOf 4).run Tryd.prog w = .ok 1 w := Tryd.sizeOf4 w
theorem zv_bool (w : World) : (zeroValue 4).run Tryd.prog w = .ok (.bool false) w := Tryd.zeroValue4 w
theorem un_uint8 : Tryd.prog.underlying 5 = some (.int .u8) := Tryd.underlying5
theorem na_uint8 (w : World) : (isAgg 5).run Tryd.prog w = .ok false w := Tryd.isAgg5 w
theorem sz_uint8 (w : World) : (sizeOf 5).run Tryd.prog w = .ok 1 w := Tryd.sizeOf5 w
theorem zv_uint8 (w : World) : (zeroValue 5).run Tryd.prog w = .ok (.int .u8 0) w := Tryd.zeroValue5 w
theorem ag_api_Props (w : World) : (isAgg 23).run Tryd.prog w = .ok true w := Tryd.isAgg23 w
theorem sz_api_Props (w : World) : (sizeOf 23).run Tryd.prog w = .ok 3 w := Tryd.sizeOf23 w
theorem zv_api_Props (w : World) : (zeroValue 23).run Tryd.prog w = .ok (.agg #[(.int .i64 0), (.int .i64 0), (.int .i64 0)]) w := Tryd.zeroValue23 w
theorem ag_pithlaw14_Setup (w : World) : (isAgg 25).run Tryd.prog w = .ok true w := Tryd.isAgg25 w
theorem sz_pithlaw14_Setup (w : World) : (sizeOf 25).run Tryd.prog w = .ok 4 w := Tryd.sizeOf25 w
theorem zv_pithlaw14_Setup (w : World) : (zeroValue 25).run Tryd.prog w = .ok (.agg #[(.int .i64 0), (.int .i64 0), (.int .i64 0), (.int .i64 0)]) w := Tryd.zeroValue25 w
theorem un_sl_api_Symbol : Tryd.prog.underlying 26 = some (.slice 34) := Tryd.underlying26
theorem na_sl_api_Symbol (w : World) : (isAgg 26).run Tryd.prog w = .ok false w := Tryd.isAgg26 w
theorem sz_sl_api_Symbol (w : World) : (sizeOf 26).run Tryd.prog w = .ok 1 w := Tryd.sizeOf26 w
theorem zv_sl_api_Symbol (w : World) : (zeroValue 26).run Tryd.prog w = .ok (.slice none 0 0) w := Tryd.zeroValue26 w
theorem ag_api_Symbol (w : World) : (isAgg 34).run Tryd.prog w = .ok true w := Tryd.isAgg34 w
theorem sz_api_Symbol (w : World) : (sizeOf 34).run Tryd.prog w = .ok 4 w := Tryd.sizeOf34 w
theorem zv_api_Symbol (w : World) : (zeroValue 34).run Tryd.prog w = .ok (.agg #[(.int .i64 0), (.int .u8 0), (.int .i64 0), (.int .i64 0)]) w := Tryd.zeroValue34 w
theorem un_sl_uint8 : Tryd.prog.underlying 38 = some (.slice 5) := Tryd.underlying38
theorem na_sl_uint8 (w : World) : (isAgg 38).run Tryd.prog w = .ok false w := Tryd.isAgg38 w
theorem sz_sl_uint8 (w : World) : (sizeOf 38).run Tryd.prog w = .ok 1 w := Tryd.sizeOf38 w
theorem zv_sl_uint8 (w : World) : (zeroValue 38).run Tryd.prog w = .ok (.slice none 0 0) w := Tryd.zeroValue38 w
theorem un_p_window_Window : Tryd.prog.underlying 46 = some (.pointer 74) := Tryd.underlying46
theorem na_p_window_Window (w : World) : (isAgg 46).run Tryd.prog w = .ok false w := Tryd.isAgg46 w
theorem sz_p_window_Window (w : World) : (sizeOf 46).run Tryd.prog w = .ok 1 w := Tryd.sizeOf46 w
theorem zv_p_window_Window (w : World) : (zeroValue 46).run Tryd.prog w = .ok (.pointer none) w := Tryd.zeroValue46 w
theorem un_p_model_Tables : Tryd.prog.underlying 49 = some (.pointer 67) := Tryd.underlying49
theorem na_p_model_Tables (w : World) : (isAgg 49).run Tryd.prog w = .ok false w := Tryd.isAgg49 w
theorem sz_p_model_Tables (w : World) : (sizeOf 49).run Tryd.prog w = .ok 1 w := Tryd.sizeOf49 w
theorem zv_p_model_Tables (w : World) : (zeroValue 49).run Tryd.prog w = .ok (.pointer none) w := Tryd.zeroValue49 w
theorem un_p_rcenc_Encoder : Tryd.prog.underlying 51 = some (.pointer 81) := Tryd.underlying51
theorem na_p_rcenc_Encoder (w : World) : (isAgg 51).run Tryd.prog w = .ok false w := Tryd.isAgg51 w
theorem sz_p_rcenc_Encoder (w : World) : (sizeOf 51).run Tryd.prog w = .ok 1 w := Tryd.sizeOf51 w
theorem zv_p_rcenc_Encoder (w : World) : (zeroValue 51).run Tryd.prog w = .ok (.pointer none) w := Tryd.zeroValue51 w
theorem ag_lzenc_Encoder (w : World) : (isAgg 54).run Tryd.prog w = .ok true w := Tryd.isAgg54 w
theorem sz_lzenc_Encoder (w : World) : (sizeOf 54).run Tryd.prog w = .ok 3 w := Tryd.sizeOf54 w
theorem zv_lzenc_Encoder (w : World) : (zeroValue 54).run Tryd.prog w = .ok (.agg #[(.pointer none), (.pointer none), (.pointer none)]) w := Tryd.zeroValue54 w
theorem ag_lzenc_coding (w : World) : (isAgg 57).run Tryd.prog w = .ok true w := Tryd.isAgg57 w
theorem sz_lzenc_coding (w : World) : (sizeOf 57).run Tryd.prog w = .ok 1 w := Tryd.sizeOf57 w
theorem zv_lzenc_coding (w : World) : (zeroValue 57).run Tryd.prog w = .ok (.agg #[(.pointer none)]) w := Tryd.zeroValue57 w
theorem un_arr4_int : Tryd.prog.underlying 58 = some (.array 4 3) := Tryd.underlying58
theorem ag_arr4_int (w : World) : (isAgg 58).run Tryd.prog w = .ok true w := Tryd.isAgg58 w
theorem sz_arr4_int (w : World) : (sizeOf 58).run Tryd.prog w = .ok 4 w := Tryd.sizeOf58 w
theorem zv_arr4_int (w : World) : (zeroValue 58).run Tryd.prog w = .ok (.agg #[(.int .i64 0), (.int .i64 0), (.int .i64 0), (.int .i64 0)]) w := Tryd.zeroValue58 w
theorem ag_state_State (w : World) : (isAgg 60).run Tryd.prog w = .ok true w := Tryd.isAgg60 w
theorem sz_state_State (w : World) : (sizeOf 60).run Tryd.prog w = .ok 5 w := Tryd.sizeOf60 w
theorem zv_state_State (w : World) : (zeroValue 60).run Tryd.prog w = .ok (.agg #[(.int .i64 0), (.int .i64 0), (.int .i64 0), (.int .i64 0), (.int .i64 0)]) w := Tryd.zeroValue60 w
theorem un_p_prob_Set : Tryd.prog.underlying 63 = some (.pointer 112) := Tryd.underlying63
theorem na_p_prob_Set (w : World) : (isAgg 63).run Tryd.prog w = .ok false w := Tryd.isAgg63 w
theorem sz_p_prob_Set (w : World) : (sizeOf 63).run Tryd.prog w = .ok 1 w := Tryd.sizeOf63 w
theorem zv_p_prob_Set (w : World) : (zeroValue 63).run Tryd.prog w = .ok (.pointer none) w := Tryd.zeroValue63 w
theorem ag_model_Lengths (w : World) : (isAgg 65).run Tryd.prog w = .ok true w := Tryd.isAgg65 w
theorem sz_model_Lengths (w : World) : (sizeOf 65).run Tryd.prog w = .ok 4 w := Tryd.sizeOf65 w
theorem zv_model_Lengths (w : World) : (zeroValue 65).run Tryd.prog w = .ok (.agg #[(.pointer none), (.pointer none), (.pointer none), (.pointer none)]) w := Tryd.zeroValue65 w
theorem ag_model_Tables (w : World) : (isAgg 67).run Tryd.prog w = .ok true w := Tryd.isAgg67 w
theorem sz_model_Tables (w : World) : (sizeOf 67).run Tryd.prog w = .ok 26 w := Tryd.sizeOf67 w
theorem zv_model_Tables (w : World) : (zeroValue 67).run Tryd.prog w = .ok (.agg #[(.int .i64 0), (.int .i64 0), (.int .i64 0), (.int .i64 0), (.int .i64 0), (.int .i64 0), (.int .i64 0), (.int .i64 0), (.pointer none), (.pointer none), (.pointer none), (.pointer none), (.pointer none), (.pointer none), (.pointer none), (.pointer none), (.pointer none), (.pointer none), (.pointer none), (.pointer none), (.pointer none), (.pointer none), (.pointer none), (.pointer none), (.pointer none), (.pointer none)]) w := Tryd.zeroValue67 w
theorem ag_lzenc_costing (w : World) : (isAgg 71).run Tryd.prog w = .ok true w := Tryd.isAgg71 w
theorem sz_lzenc_costing (w : World) : (sizeOf 71).run Tryd.prog w = .ok 1 w := Tryd.sizeOf71 w
theorem zv_lzenc_costing (w : World) : (zeroValue 71).run Tryd.prog w = .ok (.agg #[(.int .i64 0)]) w := Tryd.zeroValue71 w
theorem ag_window_Window (w : World) : (isAgg 74).run Tryd.prog w = .ok true w := Tryd.isAgg74 w
theorem sz_window_Window (w : World) : (sizeOf 74).run Tryd.prog w = .ok 4 w := Tryd.sizeOf74 w
theorem zv_window_Window (w : World) : (zeroValue 74).run Tryd.prog w = .ok (.agg #[(.int .i64 0), (.slice none 0 0), (.int .i64 0), (.int .i64 0)]) w := Tryd.zeroValue74 w
theorem un_uint32 : Tryd.prog.underlying 78 = some (.int .u32) := Tryd.underlying78
theorem na_uint32 (w : World) : (isAgg 78).run Tryd.prog w = .ok false w := Tryd.isAgg78 w
theorem sz_uint32 (w : World) : (sizeOf 78).run Tryd.prog w = .ok 1 w := Tryd.sizeOf78 w
theorem zv_uint32 (w : World) : (zeroValue 78).run Tryd.prog w = .ok (.int .u32 0) w := Tryd.zeroValue78 w
theorem un_uint64 : Tryd.prog.underlying 79 = some (.int .u64) := Tryd.underlying79
theorem na_uint64 (w : World) : (isAgg 79).run Tryd.prog w = .ok false w := Tryd.isAgg79 w
theorem sz_uint64 (w : World) : (sizeOf 79).run Tryd.prog w = .ok 1 w := Tryd.sizeOf79 w
theorem zv_uint64 (w : World) : (zeroValue 79).run Tryd.prog w = .ok (.int .u64 0) w := Tryd.zeroValue79 w
theorem ag_rcenc_Encoder (w : World) : (isAgg 81).run Tryd.prog w = .ok true w := Tryd.isAgg81 w
theorem sz_rcenc_Encoder (w : World) : (sizeOf 81).run Tryd.prog w = .ok 5 w := Tryd.sizeOf81 w
theorem zv_rcenc_Encoder (w : World) : (zeroValue 81).run Tryd.prog w = .ok (.agg #[(.int .u64 0), (.int .u32 0), (.int .u8 0), (.int .i64 0), (.slice none 0 0)]) w := Tryd.zeroValue81 w
theorem un_p_p_prob_Set : Tryd.prog.underlying 95 = some (.pointer 63) := Tryd.underlying95
theorem na_p_p_prob_Set (w : World) : (isAgg 95).run Tryd.prog w = .ok false w := Tryd.isAgg95 w
theorem sz_p_p_prob_Set (w : World) : (sizeOf 95).run Tryd.prog w = .ok 1 w := Tryd.sizeOf95 w
theorem zv_p_p_prob_Set (w : World) : (zeroValue 95).run Tryd.prog w = .ok (.pointer none) w := Tryd.zeroValue95 w
theorem un_sl_p_p_prob_Set : Tryd.prog.underlying 96 = some (.slice 95) := Tryd.underlying96
theorem na_sl_p_p_prob_Set (w : World) : (isAgg 96).run Tryd.prog w = .ok false w := Tryd.isAgg96 w
theorem sz_sl_p_p_prob_Set (w : World) : (sizeOf 96).run Tryd.prog w = .ok 1 w := Tryd.sizeOf96 w
theorem zv_sl_p_p_prob_Set (w : World) : (zeroValue 96).run Tryd.prog w = .ok (.slice none 0 0) w := Tryd.zeroValue96 w
theorem un_arr12_int : Tryd.prog.underlying 100 = some (.array 12 3) := Tryd.underlying100
theorem ag_arr12_int (w : World) : (isAgg 100).run Tryd.prog w = .ok true w := Tryd.isAgg100 w
theorem sz_arr12_int (w : World) : (sizeOf 100).run Tryd.prog w = .ok 12 w := Tryd.sizeOf100 w
theorem zv_arr12_int (w : World) : (zeroValue 100).run Tryd.prog w = .ok (.agg #[(.int .i64 0), (.int .i64 0), (.int .i64 0), (.int .i64 0), (.int .i64 0), (.int .i64 0), (.int .i64 0), (.int .i64 0), (.int .i64 0), (.int .i64 0), (.int .i64 0), (.int .i64 0)]) w := Tryd.zeroValue100 w
theorem un_sl_int : Tryd.prog.underlying 102 = some (.slice 3) := Tryd.underlying102
theorem na_sl_int (w : World) : (isAgg 102).run Tryd.prog w = .ok false w := Tryd.isAgg102 w
theorem sz_sl_int (w : World) : (sizeOf 102).run Tryd.prog w = .ok 1 w := Tryd.sizeOf102 w
theorem zv_sl_int (w : World) : (zeroValue 102).run Tryd.prog w = .ok (.slice none 0 0) w := Tryd.zeroValue102 w
theorem ag_prob_Set (w : World) : (isAgg 112).run Tryd.prog w = .ok true w := Tryd.isAgg112 w
theorem sz_prob_Set (w : World) : (sizeOf 112).run Tryd.prog w = .ok 1 w := Tryd.sizeOf112 w
theorem zv_prob_Set (w : World) : (zeroValue 112).run Tryd.prog w = .ok (.agg #[(.slice none 0 0)]) w := Tryd.zeroValue112 w
theorem st_sl_api_Symbol : SlT Tryd.prog 26 34 (.agg #[(.int .i64 0), (.int .u8 0), (.int .i64 0), (.int .i64 0)]) 4 32 := ⟨Tryd.underlying26, info_parts (by kernel_rfl), rfl, by decide⟩
theorem st_sl_uint8 : SlT Tryd.prog 38 5 (.int .u8 0) 1 1 := ⟨Tryd.underlying38, info_parts (by kernel_rfl), rfl, by decide⟩
theorem st_sl_p_p_prob_Set : SlT Tryd.prog 96 95 (.pointer none) 1 8 := ⟨Tryd.underlying96, info_parts (by kernel_rfl), rfl, by decide⟩
theorem st_sl_int : SlT Tryd.prog 102 3 (.int .i64 0) 1 8 := ⟨Tryd.underlying102, info_parts (by kernel_rfl), rfl, by decide⟩
theorem pN_conv_int_uint32 (k : IntKind) (n : Int) : pN Tryd.prog (oConv 3 78 (.int k n)) w K = K (.int .u32 (IntKind.wrap .u32 n)) w := pN_conv k n Tryd.underlying3 Tryd.underlying78
theorem pA_conv_int_uint32 (k : IntKind) (n : Int) : pA Tryd.prog (oConv 3 78 (.int k n)) J = J (.int .u32 (IntKind.wrap .u32 n)) := pA_conv k n Tryd.underlying3 Tryd.underlying78
theorem pL_conv_int_uint32 (k : IntKind) (n : Int) : pL Tryd.prog (oConv 3 78 (.int k n)) w J = J (.int .u32 (IntKind.wrap .u32 n)) := pL_conv k n Tryd.underlying3 Tryd.underlying78
theorem pN_conv_int_uint (k : IntKind) (n : Int) : pN Tryd.prog (oConv 3 110 (.int k n)) w K = K (.int .u64 (IntKind.wrap .u64 n)) w := pN_conv k n Tryd.underlying3 Tryd.underlying110
theorem pA_conv_int_uint (k : IntKind) (n : Int) : pA Tryd.prog (oConv 3 110 (.int k n)) J = J (.int .u64 (IntKind.wrap .u64 n)) := pA_conv k n Tryd.underlying3 Tryd.underlying110
theorem pL_conv_int_uint (k : IntKind) (n : Int) : pL Tryd.prog (oConv 3 110 (.int k n)) w J = J (.int .u64 (IntKind.wrap .u64 n)) := pL_conv k n Tryd.underlying3 Tryd.underlying110
theorem pN_conv_uint8_int (k : IntKind) (n : Int) : pN Tryd.prog (oConv 5 3 (.int k n)) w K = K (.int .i64 (IntKind.wrap .i64 n)) w := pN_conv k n Tryd.underlying5 Tryd.underlying3
theorem pA_conv_uint8_int (k : IntKind) (n : Int) : pA Tryd.prog (oConv 5 3 (.int k n)) J = J (.int .i64 (IntKind.wrap .i64 n)) := pA_conv k n Tryd.underlying5 Tryd.underlying3
theorem pL_conv_uint8_int (k : IntKind) (n : Int) : pL Tryd.prog (oConv 5 3 (.int k n)) w J = J (.int .i64 (IntKind.wrap .i64 n)) := pL_conv k n Tryd.underlying5 Tryd.underlying3
theorem run_str_sl_uint8 {v : Value} {n : Nat} {l : List UInt8} (hr : Rd w 1 v n (bvs l)) : (oConv 38 9 v).run Tryd.prog w = .ok (.value (.string ⟨l.toArray⟩)) w := run_str Tryd.underlying38 Tryd.underlying5 Tryd.underlying9 hr.len
theorem pN_str_sl_uint8 {v : Value} {n : Nat} {l : List UInt8} (hr : Rd w 1 v n (bvs l)) : pN Tryd.prog (oConv 38 9 v) w K = K (.string ⟨l.toArray⟩) w := by rw [pN_def, run_str_sl_uint8 hr, rN_value]
theorem pL_str_sl_uint8 {v : Value} {n : Nat} {l : List UInt8} (hr : Rd w 1 v n (bvs l)) : pL Tryd.prog (oConv 38 9 v) w J = J (.string ⟨l.toArray⟩) := by rw [pL_def, run_str_sl_uint8 hr, rL_value]
theorem pN_conv_uint32_uint8 (k : IntKind) (n : Int) : pN Tryd.prog (oConv 78 5 (.int k n)) w K = K (.int .u8 (IntKind.wrap .u8 n)) w := pN_conv k n Tryd.underlying78 Tryd.underlying5
theorem pA_conv_uint32_uint8 (k : IntKind) (n : Int) : pA Tryd.prog (oConv 78 5 (.int k n)) J = J (.int .u8 (IntKind.wrap .u8 n)) := pA_conv k n Tryd.underlying78 Tryd.underlying5
theorem pL_conv_uint32_uint8 (k : IntKind) (n : Int) : pL Tryd.prog (oConv 78 5 (.int k n)) w J = J (.int .u8 (IntKind.wrap .u8 n)) := pL_conv k n Tryd.underlying78 Tryd.underlying5
theorem pN_conv_uint32_uint64 (k : IntKind) (n : Int) : pN Tryd.prog (oConv 78 79 (.int k n)) w K = K (.int .u64 (IntKind.wrap .u64 n)) w := pN_conv k n Tryd.underlying78 Tryd.underlying79
theorem pA_conv_uint32_uint64 (k : IntKind) (n : Int) : pA Tryd.prog (oConv 78 79 (.int k n)) J = J (.int .u64 (IntKind.wrap .u64 n)) := pA_conv k n Tryd.underlying78 Tryd.underlying79
theorem pL_conv_uint32_uint64 (k : IntKind) (n : Int) : pL Tryd.prog (oConv 78 79 (.int k n)) w J = J (.int .u64 (IntKind.wrap .u64 n)) := pL_conv k n Tryd.underlying78 Tryd.underlying79
theorem pN_conv_uint64_uint8 (k : IntKind) (n : Int) : pN Tryd.prog (oConv 79 5 (.int k n)) w K = K (.int .u8 (IntKind.wrap .u8 n)) w := pN_conv k n Tryd.underlying79 Tryd.underlying5
theorem pA_conv_uint64_uint8 (k : IntKind) (n : Int) : pA Tryd.prog (oConv 79 5 (.int k n)) J = J (.int .u8 (IntKind.wrap .u8 n)) := pA_conv k n Tryd.underlying79 Tryd.underlying5
theorem pL_conv_uint64_uint8 (k : IntKind) (n : Int) : pL Tryd.prog (oConv 79 5 (.int k n)) w J = J (.int .u8 (IntKind.wrap .u8 n)) := pL_conv k n Tryd.underlying79 Tryd.underlying5
theorem pN_conv_uint_int (k : IntKind) (n : Int) : pN Tryd.prog (oConv 110 3 (.int k n)) w K = K (.int .i64 (IntKind.wrap .i64 n)) w := pN_conv k n Tryd.underlying110 Tryd.underlying3
theorem pA_conv_uint_int (k : IntKind) (n : Int) : pA Tryd.prog (oConv 110 3 (.int k n)) J = J (.int .i64 (IntKind.wrap .i64 n)) := pA_conv k n Tryd.underlying110 Tryd.underlying3
theorem pL_conv_uint_int (k : IntKind) (n : Int) : pL Tryd.prog (oConv 110 3 (.int k n)) w J = J (.int .i64 (IntKind.wrap .i64 n)) := pL_conv k n Tryd.underlying110 Tryd.underlying3
theorem pN_conv_uint_uint32 (k : IntKind) (n : Int) : pN Tryd.prog (oConv 110 78 (.int k n)) w K = K (.int .u32 (IntKind.wrap .u32 n)) w := pN_conv k n Tryd.underlying110 Tryd.underlying78
theorem pA_conv_uint_uint32 (k : IntKind) (n : Int) : pA Tryd.prog (oConv 110 78 (.int k n)) J = J (.int .u32 (IntKind.wrap .u32 n)) := pA_conv k n Tryd.underlying110 Tryd.underlying78
theorem pL_conv_uint_uint32 (k : IntKind) (n : Int) : pL Tryd.prog (oConv 110 78 (.int k n)) w J = J (.int .u32 (IntKind.wrap .u32 n)) := pL_conv k n Tryd.underlying110 Tryd.underlying78
theorem pN_len_sl_api_Symbol (ty : TypeId) (ao : Option Addr) (n c : Nat) (cs : List Bool) : pN Tryd.prog (oBi .len #[26] ty cs [.slice ao n c]) w K = K (.int .i64 n) w := pN_len 26 ty ao n c cs Tryd.underlying26
theorem pA_len_sl_api_Symbol (ty : TypeId) (ao : Option Addr) (n c : Nat) (cs : List Bool) : pA Tryd.prog (oBi .len #[26] ty cs [.slice ao n c]) J = J (.int .i64 n) := pA_len 26 ty ao n c cs Tryd.underlying26
theorem pN_len_sl_api_Symbol_rd {v : Value} (ty : TypeId) {n s : Nat} {xs : List Value} (cs : List Bool) (hr : Rd w s v n xs) : pN Tryd.prog (oBi .len #[26] ty cs [v]) w K = K (.int .i64 n) w := by obtain ⟨_, ao, cap, rfl, _⟩ := hr; exact pN_len_sl_api_Symbol ty ao n cap cs
theorem pA_len_sl_api_Symbol_rd {v : Value} (ty : TypeId) {n s : Nat} {xs : List Value} (cs : List Bool) (hr : Rd w s v n xs) : pA Tryd.prog (oBi .len #[26] ty cs [v]) J = J (.int .i64 n) := by obtain ⟨_, ao, cap, rfl, _⟩ := hr; exact pA_len_sl_api_Symbol ty ao n cap cs
theorem pN_len_sl_uint8 (ty : TypeId) (ao : Option Addr) (n c : Nat) (cs : List Bool) : pN Tryd.prog (oBi .len #[38] ty cs [.slice ao n c]) w K = K (.int .i64 n) w := pN_len 38 ty ao n c cs Tryd.underlying38
theorem pA_len_sl_uint8 (ty : TypeId) (ao : Option Addr) (n c : Nat) (cs : List Bool) : pA Tryd.prog (oBi .len #[38] ty cs [.slice ao n c]) J = J (.int .i64 n) := pA_len 38 ty ao n c cs Tryd.underlying38
theorem pN_len_sl_uint8_rd {v : Value} (ty : TypeId) {n s : Nat} {xs : List Value} (cs : List Bool) (hr : Rd w s v n xs) : pN Tryd.prog (oBi .len #[38] ty cs [v]) w K = K (.int .i64 n) w := by obtain ⟨_, ao, cap, rfl, _⟩ := hr; exact pN_len_sl_uint8 ty ao n cap cs
theorem pA_len_sl_uint8_rd {v : Value} (ty : TypeId) {n s : Nat} {xs : List Value} (cs : List Bool) (hr : Rd w s v n xs) : pA Tryd.prog (oBi .len #[38] ty cs [v]) J = J (.int .i64 n) := by obtain ⟨_, ao, cap, rfl, _⟩ := hr; exact pA_len_sl_uint8 ty ao n cap cs
theorem pN_len_sl_p_p_prob_Set (ty : TypeId) (ao : Option Addr) (n c : Nat) (cs : List Bool) : pN Tryd.prog (oBi .len #[96] ty cs [.slice ao n c]) w K = K (.int .i64 n) w := pN_len 96 ty ao n c cs Tryd.underlying96
theorem pA_len_sl_p_p_prob_Set (ty : TypeId) (ao : Option Addr) (n c : Nat) (cs : List Bool) : pA Tryd.prog (oBi .len #[96] ty cs [.slice ao n c]) J = J (.int .i64 n) := pA_len 96 ty ao n c cs Tryd.underlying96
theorem pN_len_sl_p_p_prob_Set_rd {v : Value} (ty : TypeId) {n s : Nat} {xs : List Value} (cs : List Bool) (hr : Rd w s v n xs) : pN Tryd.prog (oBi .len #[96] ty cs [v]) w K = K (.int .i64 n) w := by obtain ⟨_, ao, cap, rfl, _⟩ := hr; exact pN_len_sl_p_p_prob_Set ty ao n cap cs
theorem pA_len_sl_p_p_prob_Set_rd {v : Value} (ty : TypeId) {n s : Nat} {xs : List Value} (cs : List Bool) (hr : Rd w s v n xs) : pA Tryd.prog (oBi .len #[96] ty cs [v]) J = J (.int .i64 n) := by obtain ⟨_, ao, cap, rfl, _⟩ := hr; exact pA_len_sl_p_p_prob_Set ty ao n cap cs
theorem pN_len_sl_int (ty : TypeId) (ao : Option Addr) (n c : Nat) (cs : List Bool) : pN Tryd.prog (oBi .len #[102] ty cs [.slice ao n c]) w K = K (.int .i64 n) w := pN_len 102 ty ao n c cs Tryd.underlying102
theorem pA_len_sl_int (ty : TypeId) (ao : Option Addr) (n c : Nat) (cs : List Bool) : pA Tryd.prog (oBi .len #[102] ty cs [.slice ao n c]) J = J (.int .i64 n) := pA_len 102 ty ao n c cs Tryd.underlying102
theorem pN_len_sl_int_rd {v : Value} (ty : TypeId) {n s : Nat} {xs : List Value} (cs : List Bool) (hr : Rd w s v n xs) : pN Tryd.prog (oBi .len #[102] ty cs [v]) w K = K (.int .i64 n) w := by obtain ⟨_, ao, cap, rfl, _⟩ := hr; exact pN_len_sl_int ty ao n cap cs
theorem pA_len_sl_int_rd {v : Value} (ty : TypeId) {n s : Nat} {xs : List Value} (cs : List Bool) (hr : Rd w s v n xs) : pA Tryd.prog (oBi .len #[102] ty cs [v]) J = J (.int .i64 n) := by obtain ⟨_, ao, cap, rfl, _⟩ := hr; exact pA_len_sl_int ty ao n cap cs
theorem pN_aidx_arr4_int (b o : Nat) (k : IntKind) (i : Int) (h0 : 0 ≤ i) (h1 : i < 4) : pN Tryd.prog (oIdx 58 (.pointer (some ⟨b, o, none⟩)) (.int k i)) w K = K (.pointer (some ⟨b, o + i.toNat, none⟩)) w := pN_aidx Tryd.underlying58 Tryd.sizeOf3 b o k i h0 h1
theorem pA_aidx_arr4_int (b o : Nat) (k : IntKind) (i : Int) (h0 : 0 ≤ i) (h1 : i < 4) : pA Tryd.prog (oIdx 58 (.pointer (some ⟨b, o, none⟩)) (.int k i)) J = J (.pointer (some ⟨b, o + i.toNat, none⟩)) := pA_aidx Tryd.underlying58 Tryd.sizeOf3 b o k i h0 h1
theorem pN_aidx_arr12_int (b o : Nat) (k : IntKind) (i : Int) (h0 : 0 ≤ i) (h1 : i < 12) : pN Tryd.prog (oIdx 100 (.pointer (some ⟨b, o, none⟩)) (.int k i)) w K = K (.pointer (some ⟨b, o + i.toNat, none⟩)) w := pN_aidx Tryd.underlying100 Tryd.sizeOf3 b o k i h0 h1
theorem pA_aidx_arr12_int (b o : Nat) (k : IntKind) (i : Int) (h0 : 0 ≤ i) (h1 : i < 12) : pA Tryd.prog (oIdx 100 (.pointer (some ⟨b, o, none⟩)) (.int k i)) J = J (.pointer (some ⟨b, o + i.toNat, none⟩)) := pA_aidx Tryd.underlying100 Tryd.sizeOf3 b o k i h0 h1
theorem pN_eql_p_lzenc_Encoder (xo yo : Operand) (p : Option Addr) : pN Tryd.prog (oBin .eql 27 xo yo (.pointer p) (.pointer none)) w K = K (.bool (p.isNone)) w := pN_eql_ptr 27 xo yo p Tryd.underlying27
theorem pA_eql_p_lzenc_Encoder (xo yo : Operand) (p : Option Addr) : pA Tryd.prog (oBin .eql 27 xo yo (.pointer p) (.pointer none)) J = J (.bool (p.isNone)) := pA_eql_ptr 27 xo yo p Tryd.underlying27
theorem pN_neq_p_lzenc_Encoder (xo yo : Operand) (p : Option Addr) : pN Tryd.prog (oBin .neq 27 xo yo (.pointer p) (.pointer none)) w K = K (.bool (!p.isNone)) w := pN_neq_ptr 27 xo yo p Tryd.underlying27
theorem pA_neq_p_lzenc_Encoder (xo yo : Operand) (p : Option Addr) : pA Tryd.prog (oBin .neq 27 xo yo (.pointer p) (.pointer none)) J = J (.bool (!p.isNone)) := pA_neq_ptr 27 xo yo p Tryd.underlying27
theorem run_fld_api_Props_LC (b o : Nat) (w : World) : (oFld 23 (.pointer (some ⟨b, o, none⟩)) 0).run Tryd.prog w = .ok (.value (.pointer (some ⟨b, o, none⟩))) w := by kernel_rfl
theorem pN_fld_api_Props_LC (b o : Nat) : pN Tryd.prog (oFld 23 (.pointer (some ⟨b, o, none⟩)) 0) w K = K (.pointer (some ⟨b, o, none⟩)) w := by rw [pN_def, run_fld_api_Props_LC, rN_value]
theorem pA_fld_api_Props_LC (b o : Nat) : pA Tryd.prog (oFld 23 (.pointer (some ⟨b, o, none⟩)) 0) J = J (.pointer (some ⟨b, o, none⟩)) := by rw [pA_def, funext (run_fld_api_Props_LC b o), rA_value]
theorem run_fld_api_Props_LP (b o : Nat) (w : World) : (oFld 23 (.pointer (some ⟨b, o, none⟩)) 1).run Tryd.prog w = .ok (.value (.pointer (some ⟨b, o + 1, none⟩))) w := by kernel_rfl
theorem pN_fld_api_Props_LP (b o : Nat) : pN Tryd.prog (oFld 23 (.pointer (some ⟨b, o, none⟩)) 1) w K = K (.pointer (some ⟨b, o + 1, none⟩)) w := by rw [pN_def, run_fld_api_Props_LP, rN_value]
theorem pA_fld_api_Props_LP (b o : Nat) : pA Tryd.prog (oFld 23 (.pointer (some ⟨b, o, none⟩)) 1) J = J (.pointer (some ⟨b, o + 1, none⟩)) := by rw [pA_def, funext (run_fld_api_Props_LP b o), rA_value]
theorem run_fld_api_Props_PB (b o : Nat) (w : World) : (oFld 23 (.pointer (some ⟨b, o, none⟩)) 2).run Tryd.prog w = .ok (.value (.pointer (some ⟨b, o + 2, none⟩))) w := by kernel_rfl
theorem pN_fld_api_Props_PB (b o : Nat) : pN Tryd.prog (oFld 23 (.pointer (some ⟨b, o, none⟩)) 2) w K = K (.pointer (some ⟨b, o + 2, none⟩)) w := by rw [pN_def, run_fld_api_Props_PB, rN_value]
theorem pA_fld_api_Props_PB (b o : Nat) : pA Tryd.prog (oFld 23 (.pointer (some ⟨b, o, none⟩)) 2) J = J (.pointer (some ⟨b, o + 2, none⟩)) := by rw [pA_def, funext (run_fld_api_Props_PB b o), rA_value]
theorem run_fld_pithlaw14_Setup_Props (b o : Nat) (w : World) : (oFld 25 (.pointer (some ⟨b, o, none⟩)) 0).run Tryd.prog w = .ok (.value (.pointer (some ⟨b, o, none⟩))) w := by kernel_rfl
theorem pN_fld_pithlaw14_Setup_Props (b o : Nat) : pN Tryd.prog (oFld 25 (.pointer (some ⟨b, o, none⟩)) 0) w K = K (.pointer (some ⟨b, o, none⟩)) w := by rw [pN_def, run_fld_pithlaw14_Setup_Props, rN_value]
theorem pA_fld_pithlaw14_Setup_Props (b o : Nat) : pA Tryd.prog (oFld 25 (.pointer (some ⟨b, o, none⟩)) 0) J = J (.pointer (some ⟨b, o, none⟩)) := by rw [pA_def, funext (run_fld_pithlaw14_Setup_Props b o), rA_value]
theorem run_fld_pithlaw14_Setup_Dict (b o : Nat) (w : World) : (oFld 25 (.pointer (some ⟨b, o, none⟩)) 1).run Tryd.prog w = .ok (.value (.pointer (some ⟨b, o + 3, none⟩))) w := by kernel_rfl
theorem pN_fld_pithlaw14_Setup_Dict (b o : Nat) : pN Tryd.prog (oFld 25 (.pointer (some ⟨b, o, none⟩)) 1) w K = K (.pointer (some ⟨b, o + 3, none⟩)) w := by rw [pN_def, run_fld_pithlaw14_Setup_Dict, rN_value]
theorem pA_fld_pithlaw14_Setup_Dict (b o : Nat) : pA Tryd.prog (oFld 25 (.pointer (some ⟨b, o, none⟩)) 1) J = J (.pointer (some ⟨b, o + 3, none⟩)) := by rw [pA_def, funext (run_fld_pithlaw14_Setup_Dict b o), rA_value]
theorem run_fld_api_Symbol_Kind (b o : Nat) (w : World) : (oFld 34 (.pointer (some ⟨b, o, none⟩)) 0).run Tryd.prog w = .ok (.value (.pointer (some ⟨b, o, none⟩))) w := by kernel_rfl
theorem pN_fld_api_Symbol_Kind (b o : Nat) : pN Tryd.prog (oFld 34 (.pointer (some ⟨b, o, none⟩)) 0) w K = K (.pointer (some ⟨b, o, none⟩)) w := by rw [pN_def, run_fld_api_Symbol_Kind, rN_value]
theorem pA_fld_api_Symbol_Kind (b o : Nat) : pA Tryd.prog (oFld 34 (.pointer (some ⟨b, o, none⟩)) 0) J = J (.pointer (some ⟨b, o, none⟩)) := by rw [pA_def, funext (run_fld_api_Symbol_Kind b o), rA_value]
theorem run_fld_api_Symbol_Byte (b o : Nat) (w : World) : (oFld 34 (.pointer (some ⟨b, o, none⟩)) 1).run Tryd.prog w = .ok (.value (.pointer (some ⟨b, o + 1, none⟩))) w := by kernel_rfl
theorem pN_fld_api_Symbol_Byte (b o : Nat) : pN Tryd.prog (oFld 34 (.pointer (some ⟨b, o, none⟩)) 1) w K = K (.pointer (some ⟨b, o + 1, none⟩)) w := by rw [pN_def, run_fld_api_Symbol_Byte, rN_value]
theorem pA_fld_api_Symbol_Byte (b o : Nat) : pA Tryd.prog (oFld 34 (.pointer (some ⟨b, o, none⟩)) 1) J = J (.pointer (some ⟨b, o + 1, none⟩)) := by rw [pA_def, funext (run_fld_api_Symbol_Byte b o), rA_value]
theorem run_fld_api_Symbol_Len (b o : Nat) (w : World) : (oFld 34 (.pointer (some ⟨b, o, none⟩)) 2).run Tryd.prog w = .ok (.value (.pointer (some ⟨b, o + 2, none⟩))) w := by kernel_rfl
theorem pN_fld_api_Symbol_Len (b o : Nat) : pN Tryd.prog (oFld 34 (.pointer (some ⟨b, o, none⟩)) 2) w K = K (.pointer (some ⟨b, o + 2, none⟩)) w := by rw [pN_def, run_fld_api_Symbol_Len, rN_value]
theorem pA_fld_api_Symbol_Len (b o : Nat) : pA Tryd.prog (oFld 34 (.pointer (some ⟨b, o, none⟩)) 2) J = J (.pointer (some ⟨b, o + 2, none⟩)) := by rw [pA_def, funext (run_fld_api_Symbol_Len b o), rA_value]
theorem run_fld_api_Symbol_Dist (b o : Nat) (w : World) : (oFld 34 (.pointer (some ⟨b, o, none⟩)) 3).run Tryd.prog w = .ok (.value (.pointer (some ⟨b, o + 3, none⟩))) w := by kernel_rfl
theorem pN_fld_api_Symbol_Dist (b o : Nat) : pN Tryd.prog (oFld 34 (.pointer (some ⟨b, o, none⟩)) 3) w K = K (.pointer (some ⟨b, o + 3, none⟩)) w := by rw [pN_def, run_fld_api_Symbol_Dist, rN_value]
theorem pA_fld_api_Symbol_Dist (b o : Nat) : pA Tryd.prog (oFld 34 (.pointer (some ⟨b, o, none⟩)) 3) J = J (.pointer (some ⟨b, o + 3, none⟩)) := by rw [pA_def, funext (run_fld_api_Symbol_Dist b o), rA_value]
theorem run_fld_lzenc_Encoder_Tables (b o : Nat) (w : World) : (oFld 54 (.pointer (some ⟨b, o, none⟩)) 0).run Tryd.prog w = .ok (.value (.pointer (some ⟨b, o, none⟩))) w := by kernel_rfl
theorem pN_fld_lzenc_Encoder_Tables (b o : Nat) : pN Tryd.prog (oFld 54 (.pointer (some ⟨b, o, none⟩)) 0) w K = K (.pointer (some ⟨b, o, none⟩)) w := by rw [pN_def, run_fld_lzenc_Encoder_Tables, rN_value]
theorem pA_fld_lzenc_Encoder_Tables (b o : Nat) : pA Tryd.prog (oFld 54 (.pointer (some ⟨b, o, none⟩)) 0) J = J (.pointer (some ⟨b, o, none⟩)) := by rw [pA_def, funext (run_fld_lzenc_Encoder_Tables b o), rA_value]
theorem run_fld_lzenc_Encoder_w (b o : Nat) (w : World) : (oFld 54 (.pointer (some ⟨b, o, none⟩)) 1).run Tryd.prog w = .ok (.value (.pointer (some ⟨b, o + 1, none⟩))) w := by kernel_rfl
theorem pN_fld_lzenc_Encoder_w (b o : Nat) : pN Tryd.prog (oFld 54 (.pointer (some ⟨b, o, none⟩)) 1) w K = K (.pointer (some ⟨b, o + 1, none⟩)) w := by rw [pN_def, run_fld_lzenc_Encoder_w, rN_value]
theorem pA_fld_lzenc_Encoder_w (b o : Nat) : pA Tryd.prog (oFld 54 (.pointer (some ⟨b, o, none⟩)) 1) J = J (.pointer (some ⟨b, o + 1, none⟩)) := by rw [pA_def, funext (run_fld_lzenc_Encoder_w b o), rA_value]
theorem run_fld_lzenc_Encoder_e (b o : Nat) (w : World) : (oFld 54 (.pointer (some ⟨b, o, none⟩)) 2).run Tryd.prog w = .ok (.value (.pointer (some ⟨b, o + 2, none⟩))) w := by kernel_rfl
theorem pN_fld_lzenc_Encoder_e (b o : Nat) : pN Tryd.prog (oFld 54 (.pointer (some ⟨b, o, none⟩)) 2) w K = K (.pointer (some ⟨b, o + 2, none⟩)) w := by rw [pN_def, run_fld_lzenc_Encoder_e, rN_value]
theorem pA_fld_lzenc_Encoder_e (b o : Nat) : pA Tryd.prog (oFld 54 (.pointer (some ⟨b, o, none⟩)) 2) J = J (.pointer (some ⟨b, o + 2, none⟩)) := by rw [pA_def, funext (run_fld_lzenc_Encoder_e b o), rA_value]
theorem run_fld_lzenc_coding_e (b o : Nat) (w : World) : (oFld 57 (.pointer (some ⟨b, o, none⟩)) 0).run Tryd.prog w = .ok (.value (.pointer (some ⟨b, o, none⟩))) w := by kernel_rfl
theorem pN_fld_lzenc_coding_e (b o : Nat) : pN Tryd.prog (oFld 57 (.pointer (some ⟨b, o, none⟩)) 0) w K = K (.pointer (some ⟨b, o, none⟩)) w := by rw [pN_def, run_fld_lzenc_coding_e, rN_value]
theorem pA_fld_lzenc_coding_e (b o : Nat) : pA Tryd.prog (oFld 57 (.pointer (some ⟨b, o, none⟩)) 0) J = J (.pointer (some ⟨b, o, none⟩)) := by rw [pA_def, funext (run_fld_lzenc_coding_e b o), rA_value]
theorem run_fld_state_State_Num (b o : Nat) (w : World) : (oFld 60 (.pointer (some ⟨b, o, none⟩)) 0).run Tryd.prog w = .ok (.value (.pointer (some ⟨b, o, none⟩))) w := by kernel_rfl
theorem pN_fld_state_State_Num (b o : Nat) : pN Tryd.prog (oFld 60 (.pointer (some ⟨b, o, none⟩)) 0) w K = K (.pointer (some ⟨b, o, none⟩)) w := by rw [pN_def, run_fld_state_State_Num, rN_value]
theorem pA_fld_state_State_Num (b o : Nat) : pA Tryd.prog (oFld 60 (.pointer (some ⟨b, o, none⟩)) 0) J = J (.pointer (some ⟨b, o, none⟩)) := by rw [pA_def, funext (run_fld_state_State_Num b o), rA_value]
theorem run_fld_state_State_Reps (b o : Nat) (w : World) : (oFld 60 (.pointer (some ⟨b, o, none⟩)) 1).run Tryd.prog w = .ok (.value (.pointer (some ⟨b, o + 1, none⟩))) w := by kernel_rfl
theorem pN_fld_state_State_Reps (b o : Nat) : pN Tryd.prog (oFld 60 (.pointer (some ⟨b, o, none⟩)) 1) w K = K (.pointer (some ⟨b, o + 1, none⟩)) w := by rw [pN_def, run_fld_state_State_Reps, rN_value]
theorem pA_fld_state_State_Reps (b o : Nat) : pA Tryd.prog (oFld 60 (.pointer (some ⟨b, o, none⟩)) 1) J = J (.pointer (some ⟨b, o + 1, none⟩)) := by rw [pA_def, funext (run_fld_state_State_Reps b o), rA_value]
theorem run_fld_model_Lengths_Choice (b o : Nat) (w : World) : (oFld 65 (.pointer (some ⟨b, o, none⟩)) 0).run Tryd.prog w = .ok (.value (.pointer (some ⟨b, o, none⟩))) w := by kernel_rfl
theorem pN_fld_model_Lengths_Choice (b o : Nat) : pN Tryd.prog (oFld 65 (.pointer (some ⟨b, o, none⟩)) 0) w K = K (.pointer (some ⟨b, o, none⟩)) w := by rw [pN_def, run_fld_model_Lengths_Choice, rN_value]
theorem pA_fld_model_Lengths_Choice (b o : Nat) : pA Tryd.prog (oFld 65 (.pointer (some ⟨b, o, none⟩)) 0) J = J (.pointer (some ⟨b, o, none⟩)) := by rw [pA_def, funext (run_fld_model_Lengths_Choice b o), rA_value]
theorem run_fld_model_Lengths_Low (b o : Nat) (w : World) : (oFld 65 (.pointer (some ⟨b, o, none⟩)) 1).run Tryd.prog w = .ok (.value (.pointer (some ⟨b, o + 1, none⟩))) w := by kernel_rfl
theorem pN_fld_model_Lengths_Low (b o : Nat) : pN Tryd.prog (oFld 65 (.pointer (some ⟨b, o, none⟩)) 1) w K = K (.pointer (some ⟨b, o + 1, none⟩)) w := by rw [pN_def, run_fld_model_Lengths_Low, rN_value]
theorem pA_fld_model_Lengths_Low (b o : Nat) : pA Tryd.prog (oFld 65 (.pointer (some ⟨b, o, none⟩)) 1) J = J (.pointer (some ⟨b, o + 1, none⟩)) := by rw [pA_def, funext (run_fld_model_Lengths_Low b o), rA_value]
theorem run_fld_model_Lengths_Mid (b o : Nat) (w : World) : (oFld 65 (.pointer (some ⟨b, o, none⟩)) 2).run Tryd.prog w = .ok (.value (.pointer (some ⟨b, o + 2, none⟩))) w := by kernel_rfl
theorem pN_fld_model_Lengths_Mid (b o : Nat) : pN Tryd.prog (oFld 65 (.pointer (some ⟨b, o, none⟩)) 2) w K = K (.pointer (some ⟨b, o + 2, none⟩)) w := by rw [pN_def, run_fld_model_Lengths_Mid, rN_value]
theorem pA_fld_model_Lengths_Mid (b o : Nat) : pA Tryd.prog (oFld 65 (.pointer (some ⟨b, o, none⟩)) 2) J = J (.pointer (some ⟨b, o + 2, none⟩)) := by rw [pA_def, funext (run_fld_model_Lengths_Mid b o), rA_value]
theorem run_fld_model_Lengths_High (b o : Nat) (w : World) : (oFld 65 (.pointer (some ⟨b, o, none⟩)) 3).run Tryd.prog w = .ok (.value (.pointer (some ⟨b, o + 3, none⟩))) w := by kernel_rfl
theorem pN_fld_model_Lengths_High (b o : Nat) : pN Tryd.prog (oFld 65 (.pointer (some ⟨b, o, none⟩)) 3) w K = K (.pointer (some ⟨b, o + 3, none⟩)) w := by rw [pN_def, run_fld_model_Lengths_High, rN_value]
theorem pA_fld_model_Lengths_High (b o : Nat) : pA Tryd.prog (oFld 65 (.pointer (some ⟨b, o, none⟩)) 3) J = J (.pointer (some ⟨b, o + 3, none⟩)) := by rw [pA_def, funext (run_fld_model_Lengths_High b o), rA_value]
theorem run_fld_model_Tables_Props (b o : Nat) (w : World) : (oFld 67 (.pointer (some ⟨b, o, none⟩)) 0).run Tryd.prog w = .ok (.value (.pointer (some ⟨b, o, none⟩))) w := by kernel_rfl
theorem pN_fld_model_Tables_Props (b o : Nat) : pN Tryd.prog (oFld 67 (.pointer (some ⟨b, o, none⟩)) 0) w K = K (.pointer (some ⟨b, o, none⟩)) w := by rw [pN_def, run_fld_model_Tables_Props, rN_value]
theorem pA_fld_model_Tables_Props (b o : Nat) : pA Tryd.prog (oFld 67 (.pointer (some ⟨b, o, none⟩)) 0) J = J (.pointer (some ⟨b, o, none⟩)) := by rw [pA_def, funext (run_fld_model_Tables_Props b o), rA_value]
theorem run_fld_model_Tables_State (b o : Nat) (w : World) : (oFld 67 (.pointer (some ⟨b, o, none⟩)) 1).run Tryd.prog w = .ok (.value (.pointer (some ⟨b, o + 3, none⟩))) w := by kernel_rfl
theorem pN_fld_model_Tables_State (b o : Nat) : pN Tryd.prog (oFld 67 (.pointer (some ⟨b, o, none⟩)) 1) w K = K (.pointer (some ⟨b, o + 3, none⟩)) w := by rw [pN_def, run_fld_model_Tables_State, rN_value]
theorem pA_fld_model_Tables_State (b o : Nat) : pA Tryd.prog (oFld 67 (.pointer (some ⟨b, o, none⟩)) 1) J = J (.pointer (some ⟨b, o + 3, none⟩)) := by rw [pA_def, funext (run_fld_model_Tables_State b o), rA_value]
theorem run_fld_model_Tables_IsMatch (b o : Nat) (w : World) : (oFld 67 (.pointer (some ⟨b, o, none⟩)) 2).run Tryd.prog w = .ok (.value (.pointer (some ⟨b, o + 8, none⟩))) w := by kernel_rfl
theorem pN_fld_model_Tables_IsMatch (b o : Nat) : pN Tryd.prog (oFld 67 (.pointer (some ⟨b, o, none⟩)) 2) w K = K (.pointer (some ⟨b, o + 8, none⟩)) w := by rw [pN_def, run_fld_model_Tables_IsMatch, rN_value]
theorem pA_fld_model_Tables_IsMatch (b o : Nat) : pA Tryd.prog (oFld 67 (.pointer (some ⟨b, o, none⟩)) 2) J = J (.pointer (some ⟨b, o + 8, none⟩)) := by rw [pA_def, funext (run_fld_model_Tables_IsMatch b o), rA_value]
theorem run_fld_model_Tables_IsLong (b o : Nat) (w : World) : (oFld 67 (.pointer (some ⟨b, o, none⟩)) 3).run Tryd.prog w = .ok (.value (.pointer (some ⟨b, o + 9, none⟩))) w := by kernel_rfl
theorem pN_fld_model_Tables_IsLong (b o : Nat) : pN Tryd.prog (oFld 67 (.pointer (some ⟨b, o, none⟩)) 3) w K = K (.pointer (some ⟨b, o + 9, none⟩)) w := by rw [pN_def, run_fld_model_Tables_IsLong, rN_value]
theorem pA_fld_model_Tables_IsLong (b o : Nat) : pA Tryd.prog (oFld 67 (.pointer (some ⟨b, o, none⟩)) 3) J = J (.pointer (some ⟨b, o + 9, none⟩)) := by rw [pA_def, funext (run_fld_model_Tables_IsLong b o), rA_value]
theorem run_fld_model_Tables_IsRep (b o : Nat) (w : World) : (oFld 67 (.pointer (some ⟨b, o, none⟩)) 4).run Tryd.prog w = .ok (.value (.pointer (some ⟨b, o + 10, none⟩))) w := by kernel_rfl
theorem pN_fld_model_Tables_IsRep (b o : Nat) : pN Tryd.prog (oFld 67 (.pointer (some ⟨b, o, none⟩)) 4) w K = K (.pointer (some ⟨b, o + 10, none⟩)) w := by rw [pN_def, run_fld_model_Tables_IsRep, rN_value]
theorem pA_fld_model_Tables_IsRep (b o : Nat) : pA Tryd.prog (oFld 67 (.pointer (some ⟨b, o, none⟩)) 4) J = J (.pointer (some ⟨b, o + 10, none⟩)) := by rw [pA_def, funext (run_fld_model_Tables_IsRep b o), rA_value]
theorem run_fld_model_Tables_IsRep0 (b o : Nat) (w : World) : (oFld 67 (.pointer (some ⟨b, o, none⟩)) 5).run Tryd.prog w = .ok (.value (.pointer (some ⟨b, o + 11, none⟩))) w := by kernel_rfl
theorem pN_fld_model_Tables_IsRep0 (b o : Nat) : pN Tryd.prog (oFld 67 (.pointer (some ⟨b, o, none⟩)) 5) w K = K (.pointer (some ⟨b, o + 11, none⟩)) w := by rw [pN_def, run_fld_model_Tables_IsRep0, rN_value]
theorem pA_fld_model_Tables_IsRep0 (b o : Nat) : pA Tryd.prog (oFld 67 (.pointer (some ⟨b, o, none⟩)) 5) J = J (.pointer (some ⟨b, o + 11, none⟩)) := by rw [pA_def, funext (run_fld_model_Tables_IsRep0 b o), rA_value]
theorem run_fld_model_Tables_IsRep1 (b o : Nat) (w : World) : (oFld 67 (.pointer (some ⟨b, o, none⟩)) 6).run Tryd.prog w = .ok (.value (.pointer (some ⟨b, o + 12, none⟩))) w := by kernel_rfl
theorem pN_fld_model_Tables_IsRep1 (b o : Nat) : pN Tryd.prog (oFld 67 (.pointer (some ⟨b, o, none⟩)) 6) w K = K (.pointer (some ⟨b, o + 12, none⟩)) w := by rw [pN_def, run_fld_model_Tables_IsRep1, rN_value]
theorem pA_fld_model_Tables_IsRep1 (b o : Nat) : pA Tryd.prog (oFld 67 (.pointer (some ⟨b, o, none⟩)) 6) J = J (.pointer (some ⟨b, o + 12, none⟩)) := by rw [pA_def, funext (run_fld_model_Tables_IsRep1 b o), rA_value]
theorem run_fld_model_Tables_IsRep2 (b o : Nat) (w : World) : (oFld 67 (.pointer (some ⟨b, o, none⟩)) 7).run Tryd.prog w = .ok (.value (.pointer (some ⟨b, o + 13, none⟩))) w := by kernel_rfl
theorem pN_fld_model_Tables_IsRep2 (b o : Nat) : pN Tryd.prog (oFld 67 (.pointer (some ⟨b, o, none⟩)) 7) w K = K (.pointer (some ⟨b, o + 13, none⟩)) w := by rw [pN_def, run_fld_model_Tables_IsRep2, rN_value]
theorem pA_fld_model_Tables_IsRep2 (b o : Nat) : pA Tryd.prog (oFld 67 (.pointer (some ⟨b, o, none⟩)) 7) J = J (.pointer (some ⟨b, o + 13, none⟩)) := by rw [pA_def, funext (run_fld_model_Tables_IsRep2 b o), rA_value]
theorem run_fld_model_Tables_Literal (b o : Nat) (w : World) : (oFld 67 (.pointer (some ⟨b, o, none⟩)) 8).run Tryd.prog w = .ok (.value (.pointer (some ⟨b, o + 14, none⟩))) w := by kernel_rfl
theorem pN_fld_model_Tables_Literal (b o : Nat) : pN Tryd.prog (oFld 67 (.pointer (some ⟨b, o, none⟩)) 8) w K = K (.pointer (some ⟨b, o + 14, none⟩)) w := by rw [pN_def, run_fld_model_Tables_Literal, rN_value]
theorem pA_fld_model_Tables_Literal (b o : Nat) : pA Tryd.prog (oFld 67 (.pointer (some ⟨b, o, none⟩)) 8) J = J (.pointer (some ⟨b, o + 14, none⟩)) := by rw [pA_def, funext (run_fld_model_Tables_Literal b o), rA_value]
theorem run_fld_model_Tables_Match (b o : Nat) (w : World) : (oFld 67 (.pointer (some ⟨b, o, none⟩)) 9).run Tryd.prog w = .ok (.value (.pointer (some ⟨b, o + 15, none⟩))) w := by kernel_rfl
theorem pN_fld_model_Tables_Match (b o : Nat) : pN Tryd.prog (oFld 67 (.pointer (some ⟨b, o, none⟩)) 9) w K = K (.pointer (some ⟨b, o + 15, none⟩)) w := by rw [pN_def, run_fld_model_Tables_Match, rN_value]
theorem pA_fld_model_Tables_Match (b o : Nat) : pA Tryd.prog (oFld 67 (.pointer (some ⟨b, o, none⟩)) 9) J = J (.pointer (some ⟨b, o + 15, none⟩)) := by rw [pA_def, funext (run_fld_model_Tables_Match b o), rA_value]
theorem run_fld_model_Tables_Rep (b o : Nat) (w : World) : (oFld 67 (.pointer (some ⟨b, o, none⟩)) 10).run Tryd.prog w = .ok (.value (.pointer (some ⟨b, o + 19, none⟩))) w := by kernel_rfl
theorem pN_fld_model_Tables_Rep (b o : Nat) : pN Tryd.prog (oFld 67 (.pointer (some ⟨b, o, none⟩)) 10) w K = K (.pointer (some ⟨b, o + 19, none⟩)) w := by rw [pN_def, run_fld_model_Tables_Rep, rN_value]
theorem pA_fld_model_Tables_Rep (b o : Nat) : pA Tryd.prog (oFld 67 (.pointer (some ⟨b, o, none⟩)) 10) J = J (.pointer (some ⟨b, o + 19, none⟩)) := by rw [pA_def, funext (run_fld_model_Tables_Rep b o), rA_value]
theorem run_fld_model_Tables_Slot (b o : Nat) (w : World) : (oFld 67 (.pointer (some ⟨b, o, none⟩)) 11).run Tryd.prog w = .ok (.value (.pointer (some ⟨b, o + 23, none⟩))) w := by kernel_rfl
theorem pN_fld_model_Tables_Slot (b o : Nat) : pN Tryd.prog (oFld 67 (.pointer (some ⟨b, o, none⟩)) 11) w K = K (.pointer (some ⟨b, o + 23, none⟩)) w := by rw [pN_def, run_fld_model_Tables_Slot, rN_value]
theorem pA_fld_model_Tables_Slot (b o : Nat) : pA Tryd.prog (oFld 67 (.pointer (some ⟨b, o, none⟩)) 11) J = J (.pointer (some ⟨b, o + 23, none⟩)) := by rw [pA_def, funext (run_fld_model_Tables_Slot b o), rA_value]
theorem run_fld_model_Tables_Rest (b o : Nat) (w : World) : (oFld 67 (.pointer (some ⟨b, o, none⟩)) 12).run Tryd.prog w = .ok (.value (.pointer (some ⟨b, o + 24, none⟩))) w := by kernel_rfl
theorem pN_fld_model_Tables_Rest (b o : Nat) : pN Tryd.prog (oFld 67 (.pointer (some ⟨b, o, none⟩)) 12) w K = K (.pointer (some ⟨b, o + 24, none⟩)) w := by rw [pN_def, run_fld_model_Tables_Rest, rN_value]
theorem pA_fld_model_Tables_Rest (b o : Nat) : pA Tryd.prog (oFld 67 (.pointer (some ⟨b, o, none⟩)) 12) J = J (.pointer (some ⟨b, o + 24, none⟩)) := by rw [pA_def, funext (run_fld_model_Tables_Rest b o), rA_value]
theorem run_fld_model_Tables_Align (b o : Nat) (w : World) : (oFld 67 (.pointer (some ⟨b, o, none⟩)) 13).run Tryd.prog w = .ok (.value (.pointer (some ⟨b, o + 25, none⟩))) w := by kernel_rfl
theorem pN_fld_model_Tables_Align (b o : Nat) : pN Tryd.prog (oFld 67 (.pointer (some ⟨b, o, none⟩)) 13) w K = K (.pointer (some ⟨b, o + 25, none⟩)) w := by rw [pN_def, run_fld_model_Tables_Align, rN_value]
theorem pA_fld_model_Tables_Align (b o : Nat) : pA Tryd.prog (oFld 67 (.pointer (some ⟨b, o, none⟩)) 13) J = J (.pointer (some ⟨b, o + 25, none⟩)) := by rw [pA_def, funext (run_fld_model_Tables_Align b o), rA_value]
theorem run_fld_lzenc_costing_sum (b o : Nat) (w : World) : (oFld 71 (.pointer (some ⟨b, o, none⟩)) 0).run Tryd.prog w = .ok (.value (.pointer (some ⟨b, o, none⟩))) w := by kernel_rfl
theorem pN_fld_lzenc_costing_sum (b o : Nat) : pN Tryd.prog (oFld 71 (.pointer (some ⟨b, o, none⟩)) 0) w K = K (.pointer (some ⟨b, o, none⟩)) w := by rw [pN_def, run_fld_lzenc_costing_sum, rN_value]
theorem pA_fld_lzenc_costing_sum (b o : Nat) : pA Tryd.prog (oFld 71 (.pointer (some ⟨b, o, none⟩)) 0) J = J (.pointer (some ⟨b, o, none⟩)) := by rw [pA_def, funext (run_fld_lzenc_costing_sum b o), rA_value]
theorem run_fld_window_Window_size (b o : Nat) (w : World) : (oFld 74 (.pointer (some ⟨b, o, none⟩)) 0).run Tryd.prog w = .ok (.value (.pointer (some ⟨b, o, none⟩))) w := by kernel_rfl
theorem pN_fld_window_Window_size (b o : Nat) : pN Tryd.prog (oFld 74 (.pointer (some ⟨b, o, none⟩)) 0) w K = K (.pointer (some ⟨b, o, none⟩)) w := by rw [pN_def, run_fld_window_Window_size, rN_value]
theorem pA_fld_window_Window_size (b o : Nat) : pA Tryd.prog (oFld 74 (.pointer (some ⟨b, o, none⟩)) 0) J = J (.pointer (some ⟨b, o, none⟩)) := by rw [pA_def, funext (run_fld_window_Window_size b o), rA_value]
theorem run_fld_window_Window_ring (b o : Nat) (w : World) : (oFld 74 (.pointer (some ⟨b, o, none⟩)) 1).run Tryd.prog w = .ok (.value (.pointer (some ⟨b, o + 1, none⟩))) w := by kernel_rfl
theorem pN_fld_window_Window_ring (b o : Nat) : pN Tryd.prog (oFld 74 (.pointer (some ⟨b, o, none⟩)) 1) w K = K (.pointer (some ⟨b, o + 1, none⟩)) w := by rw [pN_def, run_fld_window_Window_ring, rN_value]
theorem pA_fld_window_Window_ring (b o : Nat) : pA Tryd.prog (oFld 74 (.pointer (some ⟨b, o, none⟩)) 1) J = J (.pointer (some ⟨b, o + 1, none⟩)) := by rw [pA_def, funext (run_fld_window_Window_ring b o), rA_value]
theorem run_fld_window_Window_at (b o : Nat) (w : World) : (oFld 74 (.pointer (some ⟨b, o, none⟩)) 2).run Tryd.prog w = .ok (.value (.pointer (some ⟨b, o + 2, none⟩))) w := by kernel_rfl
theorem pN_fld_window_Window_at (b o : Nat) : pN Tryd.prog (oFld 74 (.pointer (some ⟨b, o, none⟩)) 2) w K = K (.pointer (some ⟨b, o + 2, none⟩)) w := by rw [pN_def, run_fld_window_Window_at, rN_value]
theorem pA_fld_window_Window_at (b o : Nat) : pA Tryd.prog (oFld 74 (.pointer (some ⟨b, o, none⟩)) 2) J = J (.pointer (some ⟨b, o + 2, none⟩)) := by rw [pA_def, funext (run_fld_window_Window_at b o), rA_value]
theorem run_fld_window_Window_pos (b o : Nat) (w : World) : (oFld 74 (.pointer (some ⟨b, o, none⟩)) 3).run Tryd.prog w = .ok (.value (.pointer (some ⟨b, o + 3, none⟩))) w := by kernel_rfl
theorem pN_fld_window_Window_pos (b o : Nat) : pN Tryd.prog (oFld 74 (.pointer (some ⟨b, o, none⟩)) 3) w K = K (.pointer (some ⟨b, o + 3, none⟩)) w := by rw [pN_def, run_fld_window_Window_pos, rN_value]
theorem pA_fld_window_Window_pos (b o : Nat) : pA Tryd.prog (oFld 74 (.pointer (some ⟨b, o, none⟩)) 3) J = J (.pointer (some ⟨b, o + 3, none⟩)) := by rw [pA_def, funext (run_fld_window_Window_pos b o), rA_value]
theorem run_fld_rcenc_Encoder_low (b o : Nat) (w : World) : (oFld 81 (.pointer (some ⟨b, o, none⟩)) 0).run Tryd.prog w = .ok (.value (.pointer (some ⟨b, o, none⟩))) w := by kernel_rfl
theorem pN_fld_rcenc_Encoder_low (b o : Nat) : pN Tryd.prog (oFld 81 (.pointer (some ⟨b, o, none⟩)) 0) w K = K (.pointer (some ⟨b, o, none⟩)) w := by rw [pN_def, run_fld_rcenc_Encoder_low, rN_value]
theorem pA_fld_rcenc_Encoder_low (b o : Nat) : pA Tryd.prog (oFld 81 (.pointer (some ⟨b, o, none⟩)) 0) J = J (.pointer (some ⟨b, o, none⟩)) := by rw [pA_def, funext (run_fld_rcenc_Encoder_low b o), rA_value]
theorem run_fld_rcenc_Encoder_rng (b o : Nat) (w : World) : (oFld 81 (.pointer (some ⟨b, o, none⟩)) 1).run Tryd.prog w = .ok (.value (.pointer (some ⟨b, o + 1, none⟩))) w := by kernel_rfl
theorem pN_fld_rcenc_Encoder_rng (b o : Nat) : pN Tryd.prog (oFld 81 (.pointer (some ⟨b, o, none⟩)) 1) w K = K (.pointer (some ⟨b, o + 1, none⟩)) w := by rw [pN_def, run_fld_rcenc_Encoder_rng, rN_value]
theorem pA_fld_rcenc_Encoder_rng (b o : Nat) : pA Tryd.prog (oFld 81 (.pointer (some ⟨b, o, none⟩)) 1) J = J (.pointer (some ⟨b, o + 1, none⟩)) := by rw [pA_def, funext (run_fld_rcenc_Encoder_rng b o), rA_value]
theorem run_fld_rcenc_Encoder_held (b o : Nat) (w : World) : (oFld 81 (.pointer (some ⟨b, o, none⟩)) 2).run Tryd.prog w = .ok (.value (.pointer (some ⟨b, o + 2, none⟩))) w := by kernel_rfl
theorem pN_fld_rcenc_Encoder_held (b o : Nat) : pN Tryd.prog (oFld 81 (.pointer (some ⟨b, o, none⟩)) 2) w K = K (.pointer (some ⟨b, o + 2, none⟩)) w := by rw [pN_def, run_fld_rcenc_Encoder_held, rN_value]
theorem pA_fld_rcenc_Encoder_held (b o : Nat) : pA Tryd.prog (oFld 81 (.pointer (some ⟨b, o, none⟩)) 2) J = J (.pointer (some ⟨b, o + 2, none⟩)) := by rw [pA_def, funext (run_fld_rcenc_Encoder_held b o), rA_value]
theorem run_fld_rcenc_Encoder_wait (b o : Nat) (w : World) : (oFld 81 (.pointer (some ⟨b, o, none⟩)) 3).run Tryd.prog w = .ok (.value (.pointer (some ⟨b, o + 3, none⟩))) w := by kernel_rfl
theorem pN_fld_rcenc_Encoder_wait (b o : Nat) : pN Tryd.prog (oFld 81 (.pointer (some ⟨b, o, none⟩)) 3) w K = K (.pointer (some ⟨b, o + 3, none⟩)) w := by rw [pN_def, run_fld_rcenc_Encoder_wait, rN_value]
theorem pA_fld_rcenc_Encoder_wait (b o : Nat) : pA Tryd.prog (oFld 81 (.pointer (some ⟨b, o, none⟩)) 3) J = J (.pointer (some ⟨b, o + 3, none⟩)) := by rw [pA_def, funext (run_fld_rcenc_Encoder_wait b o), rA_value]
theorem run_fld_rcenc_Encoder_out (b o : Nat) (w : World) : (oFld 81 (.pointer (some ⟨b, o, none⟩)) 4).run Tryd.prog w = .ok (.value (.pointer (some ⟨b, o + 4, none⟩))) w := by kernel_rfl
theorem pN_fld_rcenc_Encoder_out (b o : Nat) : pN Tryd.prog (oFld 81 (.pointer (some ⟨b, o, none⟩)) 4) w K = K (.pointer (some ⟨b, o + 4, none⟩)) w := by rw [pN_def, run_fld_rcenc_Encoder_out, rN_value]
theorem pA_fld_rcenc_Encoder_out (b o : Nat) : pA Tryd.prog (oFld 81 (.pointer (some ⟨b, o, none⟩)) 4) J = J (.pointer (some ⟨b, o + 4, none⟩)) := by rw [pA_def, funext (run_fld_rcenc_Encoder_out b o), rA_value]
theorem run_fld_prob_Set_p (b o : Nat) (w : World) : (oFld 112 (.pointer (some ⟨b, o, none⟩)) 0).run Tryd.prog w = .ok (.value (.pointer (some ⟨b, o, none⟩))) w := by kernel_rfl
theorem pN_fld_prob_Set_p (b o : Nat) : pN Tryd.prog (oFld 112 (.pointer (some ⟨b, o, none⟩)) 0) w K = K (.pointer (some ⟨b, o, none⟩)) w := by rw [pN_def, run_fld_prob_Set_p, rN_value]
theorem pA_fld_prob_Set_p (b o : Nat) : pA Tryd.prog (oFld 112 (.pointer (some ⟨b, o, none⟩)) 0) J = J (.pointer (some ⟨b, o, none⟩)) := by rw [pA_def, funext (run_fld_prob_Set_p b o), rA_value]
theorem call_pithlaw14_LzencRefused (args : Array Value) (w : World) : (callFunc 3 args).run Tryd.prog w = .ok (.enter 3 args) w := Tryd.call3 args w
theorem call_pithlaw14_LzencForks (args : Array Value) (w : World) : (callFunc 4 args).run Tryd.prog w = .ok (.enter 4 args) w := Tryd.call4 args w
theorem call_lzenc_New (args : Array Value) (w : World) : (callFunc 5 args).run Tryd.prog w = .ok (.enter 5 args) w := Tryd.call5 args w
theorem call_pithlaw14_num (args : Array Value) (w : World) : (callFunc 6 args).run Tryd.prog w = .ok (.enter 6 args) w := Tryd.call6 args w
theorem call_pithlaw14_known (args : Array Value) (w : World) : (callFunc 7 args).run Tryd.prog w = .ok (.enter 7 args) w := Tryd.call7 args w
theorem call_lzenc_Encoder_Size (args : Array Value) (w : World) : (callFunc 8 args).run Tryd.prog w = .ok (.enter 8 args) w := Tryd.call8 args w
theorem call_lzenc_Encoder_Put (args : Array Value) (w : World) : (callFunc 9 args).run Tryd.prog w = .ok (.enter 9 args) w := Tryd.call9 args w
theorem call_lzenc_Encoder_Reset (args : Array Value) (w : World) : (callFunc 10 args).run Tryd.prog w = .ok (.enter 10 args) w := Tryd.call10 args w
theorem call_lzenc_Encoder_Cut (args : Array Value) (w : World) : (callFunc 11 args).run Tryd.prog w = .ok (.enter 11 args) w := Tryd.call11 args w
theorem call_lzenc_Encoder_Fork (args : Array Value) (w : World) : (callFunc 12 args).run Tryd.prog w = .ok (.enter 12 args) w := Tryd.call12 args w
theorem call_lzenc_Encoder_Cost (args : Array Value) (w : World) : (callFunc 13 args).run Tryd.prog w = .ok (.enter 13 args) w := Tryd.call13 args w
theorem call_lzenc_Encoder_Clear (args : Array Value) (w : World) : (callFunc 14 args).run Tryd.prog w = .ok (.enter 14 args) w := Tryd.call14 args w
theorem call_state_PropsByte (args : Array Value) (w : World) : (callFunc 15 args).run Tryd.prog w = .ok (.enter 15 args) w := Tryd.call15 args w
theorem call_window_New (args : Array Value) (w : World) : (callFunc 16 args).run Tryd.prog w = .ok (.enter 16 args) w := Tryd.call16 args w
theorem call_model_New (args : Array Value) (w : World) : (callFunc 17 args).run Tryd.prog w = .ok (.enter 17 args) w := Tryd.call17 args w
theorem call_rcenc_New (args : Array Value) (w : World) : (callFunc 18 args).run Tryd.prog w = .ok (.enter 18 args) w := Tryd.call18 args w
theorem call_rcenc_Encoder_Size (args : Array Value) (w : World) : (callFunc 19 args).run Tryd.prog w = .ok (.enter 19 args) w := Tryd.call19 args w
theorem call_lzenc_Encoder_may (args : Array Value) (w : World) : (callFunc 20 args).run Tryd.prog w = .ok (.enter 20 args) w := Tryd.call20 args w
theorem call_lzenc_Encoder_code (args : Array Value) (w : World) : (callFunc 21 args).run Tryd.prog w = .ok (.enter 21 args) w := Tryd.call21 args w
theorem call_symbol_Apply (args : Array Value) (w : World) : (callFunc 22 args).run Tryd.prog w = .ok (.enter 22 args) w := Tryd.call22 args w
theorem call_rcenc_Encoder_Bytes (args : Array Value) (w : World) : (callFunc 23 args).run Tryd.prog w = .ok (.enter 23 args) w := Tryd.call23 args w
theorem call_model_Tables_Fork (args : Array Value) (w : World) : (callFunc 24 args).run Tryd.prog w = .ok (.enter 24 args) w := Tryd.call24 args w
theorem call_window_Window_Fork (args : Array Value) (w : World) : (callFunc 25 args).run Tryd.prog w = .ok (.enter 25 args) w := Tryd.call25 args w
theorem call_rcenc_Encoder_Fork (args : Array Value) (w : World) : (callFunc 26 args).run Tryd.prog w = .ok (.enter 26 args) w := Tryd.call26 args w
theorem call_window_Window_Clear (args : Array Value) (w : World) : (callFunc 27 args).run Tryd.prog w = .ok (.enter 27 args) w := Tryd.call27 args w
theorem call_state_New (args : Array Value) (w : World) : (callFunc 28 args).run Tryd.prog w = .ok (.enter 28 args) w := Tryd.call28 args w
theorem call_model_row (args : Array Value) (w : World) : (callFunc 29 args).run Tryd.prog w = .ok (.enter 29 args) w := Tryd.call29 args w
theorem call_model_lengths (args : Array Value) (w : World) : (callFunc 30 args).run Tryd.prog w = .ok (.enter 30 args) w := Tryd.call30 args w
theorem call_state_State_Next (args : Array Value) (w : World) : (callFunc 31 args).run Tryd.prog w = .ok (.enter 31 args) w := Tryd.call31 args w
theorem call_window_Window_Last (args : Array Value) (w : World) : (callFunc 32 args).run Tryd.prog w = .ok (.enter 32 args) w := Tryd.call32 args w
theorem call_model_Tables_At (args : Array Value) (w : World) : (callFunc 33 args).run Tryd.prog w = .ok (.enter 33 args) w := Tryd.call33 args w
theorem call_window_Window_Pos (args : Array Value) (w : World) : (callFunc 34 args).run Tryd.prog w = .ok (.enter 34 args) w := Tryd.call34 args w
theorem call_lzenc_Encoder_literal (args : Array Value) (w : World) : (callFunc 35 args).run Tryd.prog w = .ok (.enter 35 args) w := Tryd.call35 args w
theorem call_lzenc_Encoder_length (args : Array Value) (w : World) : (callFunc 36 args).run Tryd.prog w = .ok (.enter 36 args) w := Tryd.call36 args w
theorem call_lzenc_Encoder_distance (args : Array Value) (w : World) : (callFunc 37 args).run Tryd.prog w = .ok (.enter 37 args) w := Tryd.call37 args w
theorem call_window_Window_Put (args : Array Value) (w : World) : (callFunc 38 args).run Tryd.prog w = .ok (.enter 38 args) w := Tryd.call38 args w
theorem call_window_Window_Copy (args : Array Value) (w : World) : (callFunc 39 args).run Tryd.prog w = .ok (.enter 39 args) w := Tryd.call39 args w
theorem call_rcenc_Encoder_shift (args : Array Value) (w : World) : (callFunc 40 args).run Tryd.prog w = .ok (.enter 40 args) w := Tryd.call40 args w
theorem call_prob_Set_Fork (args : Array Value) (w : World) : (callFunc 41 args).run Tryd.prog w = .ok (.enter 41 args) w := Tryd.call41 args w
theorem call_model_Lengths_fork (args : Array Value) (w : World) : (callFunc 42 args).run Tryd.prog w = .ok (.enter 42 args) w := Tryd.call42 args w
theorem call_prob_New (args : Array Value) (w : World) : (callFunc 43 args).run Tryd.prog w = .ok (.enter 43 args) w := Tryd.call43 args w
theorem call_state_State_right (args : Array Value) (w : World) : (callFunc 44 args).run Tryd.prog w = .ok (.enter 44 args) w := Tryd.call44 args w
theorem call_state_isLen (args : Array Value) (w : World) : (callFunc 45 args).run Tryd.prog w = .ok (.enter 45 args) w := Tryd.call45 args w
theorem call_state_isDist (args : Array Value) (w : World) : (callFunc 46 args).run Tryd.prog w = .ok (.enter 46 args) w := Tryd.call46 args w
theorem call_window_Window_in (args : Array Value) (w : World) : (callFunc 47 args).run Tryd.prog w = .ok (.enter 47 args) w := Tryd.call47 args w
theorem call_window_Window_back (args : Array Value) (w : World) : (callFunc 48 args).run Tryd.prog w = .ok (.enter 48 args) w := Tryd.call48 args w
theorem call_model_Tables_PlaceState (args : Array Value) (w : World) : (callFunc 49 args).run Tryd.prog w = .ok (.enter 49 args) w := Tryd.call49 args w
theorem call_model_Tables_Context (args : Array Value) (w : World) : (callFunc 50 args).run Tryd.prog w = .ok (.enter 50 args) w := Tryd.call50 args w
theorem call_state_State_Literal (args : Array Value) (w : World) : (callFunc 51 args).run Tryd.prog w = .ok (.enter 51 args) w := Tryd.call51 args w
theorem call_state_Slot (args : Array Value) (w : World) : (callFunc 52 args).run Tryd.prog w = .ok (.enter 52 args) w := Tryd.call52 args w
theorem call_state_Range (args : Array Value) (w : World) : (callFunc 53 args).run Tryd.prog w = .ok (.enter 53 args) w := Tryd.call53 args w
theorem call_model_Late (args : Array Value) (w : World) : (callFunc 54 args).run Tryd.prog w = .ok (.enter 54 args) w := Tryd.call54 args w
theorem call_model_RestAt (args : Array Value) (w : World) : (callFunc 55 args).run Tryd.prog w = .ok (.enter 55 args) w := Tryd.call55 args w
theorem call_prob_Set_Reset (args : Array Value) (w : World) : (callFunc 56 args).run Tryd.prog w = .ok (.enter 56 args) w := Tryd.call56 args w
theorem call_math_bits_Len (args : Array Value) (w : World) : (callFunc 57 args).run Tryd.prog w = .ok (.enter 57 args) w := Tryd.call57 args w
theorem call_math_bits_Len32 (args : Array Value) (w : World) : (callFunc 58 args).run Tryd.prog w = .ok (.enter 58 args) w := Tryd.call58 args w
theorem call_math_bits_Len64 (args : Array Value) (w : World) : (callFunc 59 args).run Tryd.prog w = .ok (.enter 59 args) w := Tryd.call59 args w
theorem call_lzenc_coding_back (args : Array Value) (w : World) : (callFunc 75 args).run Tryd.prog w = .ok (.enter 75 args) w := Tryd.call75 args w
theorem call_lzenc_coding_bit (args : Array Value) (w : World) : (callFunc 76 args).run Tryd.prog w = .ok (.enter 76 args) w := Tryd.call76 args w
theorem call_lzenc_coding_direct (args : Array Value) (w : World) : (callFunc 77 args).run Tryd.prog w = .ok (.enter 77 args) w := Tryd.call77 args w
theorem call_lzenc_coding_tree (args : Array Value) (w : World) : (callFunc 78 args).run Tryd.prog w = .ok (.enter 78 args) w := Tryd.call78 args w
theorem call_tree_PutBack (args : Array Value) (w : World) : (callFunc 79 args).run Tryd.prog w = .ok (.enter 79 args) w := Tryd.call79 args w
theorem call_rcenc_Encoder_Bit (args : Array Value) (w : World) : (callFunc 80 args).run Tryd.prog w = .ok (.enter 80 args) w := Tryd.call80 args w
theorem call_rcenc_Encoder_Direct (args : Array Value) (w : World) : (callFunc 81 args).run Tryd.prog w = .ok (.enter 81 args) w := Tryd.call81 args w
theorem call_tree_Put (args : Array Value) (w : World) : (callFunc 82 args).run Tryd.prog w = .ok (.enter 82 args) w := Tryd.call82 args w
theorem call_tree_put (args : Array Value) (w : World) : (callFunc 83 args).run Tryd.prog w = .ok (.enter 83 args) w := Tryd.call83 args w
theorem call_prob_Set_At (args : Array Value) (w : World) : (callFunc 84 args).run Tryd.prog w = .ok (.enter 84 args) w := Tryd.call84 args w
theorem call_prob_Bound (args : Array Value) (w : World) : (callFunc 85 args).run Tryd.prog w = .ok (.enter 85 args) w := Tryd.call85 args w
theorem call_rcenc_Encoder_widen (args : Array Value) (w : World) : (callFunc 86 args).run Tryd.prog w = .ok (.enter 86 args) w := Tryd.call86 args w
theorem call_prob_Set_Turn (args : Array Value) (w : World) : (callFunc 87 args).run Tryd.prog w = .ok (.enter 87 args) w := Tryd.call87 args w
theorem call_tree_there (args : Array Value) (w : World) : (callFunc 88 args).run Tryd.prog w = .ok (.enter 88 args) w := Tryd.call88 args w
theorem call_tree_holds (args : Array Value) (w : World) : (callFunc 89 args).run Tryd.prog w = .ok (.enter 89 args) w := Tryd.call89 args w
theorem call_tree_down (args : Array Value) (w : World) : (callFunc 90 args).run Tryd.prog w = .ok (.enter 90 args) w := Tryd.call90 args w
theorem call_tree_put_c1 (args : Array Value) (w : World) : (callFunc 91 args).run Tryd.prog w = .ok (.enter 91 args) w := Tryd.call91 args w
theorem call_tree_order (args : Array Value) (w : World) : (callFunc 92 args).run Tryd.prog w = .ok (.enter 92 args) w := Tryd.call92 args w
theorem call_prob_Set_has (args : Array Value) (w : World) : (callFunc 93 args).run Tryd.prog w = .ok (.enter 93 args) w := Tryd.call93 args w
theorem call_prob_taken (args : Array Value) (w : World) : (callFunc 94 args).run Tryd.prog w = .ok (.enter 94 args) w := Tryd.call94 args w
theorem call_prob_Next (args : Array Value) (w : World) : (callFunc 95 args).run Tryd.prog w = .ok (.enter 95 args) w := Tryd.call95 args w
theorem call_prob_Set_Len (args : Array Value) (w : World) : (callFunc 96 args).run Tryd.prog w = .ok (.enter 96 args) w := Tryd.call96 args w
theorem call_lzenc_costing_back (args : Array Value) (w : World) : (callFunc 97 args).run Tryd.prog w = .ok (.enter 97 args) w := Tryd.call97 args w
theorem call_lzenc_costing_bit (args : Array Value) (w : World) : (callFunc 98 args).run Tryd.prog w = .ok (.enter 98 args) w := Tryd.call98 args w
theorem call_lzenc_costing_direct (args : Array Value) (w : World) : (callFunc 99 args).run Tryd.prog w = .ok (.enter 99 args) w := Tryd.call99 args w
theorem call_lzenc_costing_tree (args : Array Value) (w : World) : (callFunc 100 args).run Tryd.prog w = .ok (.enter 100 args) w := Tryd.call100 args w
theorem call_tree_CostBack (args : Array Value) (w : World) : (callFunc 101 args).run Tryd.prog w = .ok (.enter 101 args) w := Tryd.call101 args w
theorem call_prob_Cost (args : Array Value) (w : World) : (callFunc 102 args).run Tryd.prog w = .ok (.enter 102 args) w := Tryd.call102 args w
theorem call_tree_Cost (args : Array Value) (w : World) : (callFunc 103 args).run Tryd.prog w = .ok (.enter 103 args) w := Tryd.call103 args w
theorem call_tree_cost (args : Array Value) (w : World) : (callFunc 104 args).run Tryd.prog w = .ok (.enter 104 args) w := Tryd.call104 args w
theorem call_prob_costing (args : Array Value) (w : World) : (callFunc 105 args).run Tryd.prog w = .ok (.enter 105 args) w := Tryd.call105 args w
theorem call_tree_cost_c1 (args : Array Value) (w : World) : (callFunc 106 args).run Tryd.prog w = .ok (.enter 106 args) w := Tryd.call106 args w
theorem call_gosem_cut_vars (args : Array Value) (w : World) : (callFunc 114 args).run Tryd.prog w = .ok (.enter 114 args) w := Tryd.call114 args w
attribute [local irreducible] pN oCall oCallV
theorem pc_pithlaw14_LzencRefused {args : List Value} (h : Calls Tryd.prog 3 args.toArray w (retP K)) : pN Tryd.prog (oCall 3 args) w K := pN_callQ (f := 3) (fun a w => call_pithlaw14_LzencRefused a w) h
theorem pc_pithlaw14_LzencForks {args : List Value} (h : Calls Tryd.prog 4 args.toArray w (retP K)) : pN Tryd.prog (oCall 4 args) w K := pN_callQ (f := 4) (fun a w => call_pithlaw14_LzencForks a w) h
theorem pc_lzenc_New {args : List Value} (h : Calls Tryd.prog 5 args.toArray w (retP K)) : pN Tryd.prog (oCall 5 args) w K := pN_callQ (f := 5) (fun a w => call_lzenc_New a w) h
theorem pc_pithlaw14_num {args : List Value} (h : Calls Tryd.prog 6 args.toArray w (retP K)) : pN Tryd.prog (oCall 6 args) w K := pN_callQ (f := 6) (fun a w => call_pithlaw14_num a w) h
theorem pc_pithlaw14_known {args : List Value} (h : Calls Tryd.prog 7 args.toArray w (retP K)) : pN Tryd.prog (oCall 7 args) w K := pN_callQ (f := 7) (fun a w => call_pithlaw14_known a w) h
theorem pc_lzenc_Encoder_Size {args : List Value} (h : Calls Tryd.prog 8 args.toArray w (retP K)) : pN Tryd.prog (oCall 8 args) w K := pN_callQ (f := 8) (fun a w => call_lzenc_Encoder_Size a w) h
theorem pc_lzenc_Encoder_Put {args : List Value} (h : Calls Tryd.prog 9 args.toArray w (retP K)) : pN Tryd.prog (oCall 9 args) w K := pN_callQ (f := 9) (fun a w => call_lzenc_Encoder_Put a w) h
theorem pc_lzenc_Encoder_Reset {args : List Value} (h : Calls Tryd.prog 10 args.toArray w (retP K)) : pN Tryd.prog (oCall 10 args) w K := pN_callQ (f := 10) (fun a w => call_lzenc_Encoder_Reset a w) h
theorem pc_lzenc_Encoder_Cut {args : List Value} (h : Calls Tryd.prog 11 args.toArray w (retP K)) : pN Tryd.prog (oCall 11 args) w K := pN_callQ (f := 11) (fun a w => call_lzenc_Encoder_Cut a w) h
theorem pc_lzenc_Encoder_Fork {args : List Value} (h : Calls Tryd.prog 12 args.toArray w (retP K)) : pN Tryd.prog (oCall 12 args) w K := pN_callQ (f := 12) (fun a w => call_lzenc_Encoder_Fork a w) h
theorem pc_lzenc_Encoder_Cost {args : List Value} (h : Calls Tryd.prog 13 args.toArray w (retP K)) : pN Tryd.prog (oCall 13 args) w K := pN_callQ (f := 13) (fun a w => call_lzenc_Encoder_Cost a w) h
theorem pc_lzenc_Encoder_Clear {args : List Value} (h : Calls Tryd.prog 14 args.toArray w (retP K)) : pN Tryd.prog (oCall 14 args) w K := pN_callQ (f := 14) (fun a w => call_lzenc_Encoder_Clear a w) h
theorem pc_state_PropsByte {args : List Value} (h : Calls Tryd.prog 15 args.toArray w (retP K)) : pN Tryd.prog (oCall 15 args) w K := pN_callQ (f := 15) (fun a w => call_state_PropsByte a w) h
theorem pc_window_New {args : List Value} (h : Calls Tryd.prog 16 args.toArray w (retP K)) : pN Tryd.prog (oCall 16 args) w K := pN_callQ (f := 16) (fun a w => call_window_New a w) h
theorem pc_model_New {args : List Value} (h : Calls Tryd.prog 17 args.toArray w (retP K)) : pN Tryd.prog (oCall 17 args) w K := pN_callQ (f := 17) (fun a w => call_model_New a w) h
theorem pc_rcenc_New {args : List Value} (h : Calls Tryd.prog 18 args.toArray w (retP K)) : pN Tryd.prog (oCall 18 args) w K := pN_callQ (f := 18) (fun a w => call_rcenc_New a w) h
theorem pc_rcenc_Encoder_Size {args : List Value} (h : Calls Tryd.prog 19 args.toArray w (retP K)) : pN Tryd.prog (oCall 19 args) w K := pN_callQ (f := 19) (fun a w => call_rcenc_Encoder_Size a w) h
theorem pc_lzenc_Encoder_may {args : List Value} (h : Calls Tryd.prog 20 args.toArray w (retP K)) : pN Tryd.prog (oCall 20 args) w K := pN_callQ (f := 20) (fun a w => call_lzenc_Encoder_may a w) h
theorem pc_lzenc_Encoder_code {args : List Value} (h : Calls Tryd.prog 21 args.toArray w (retP K)) : pN Tryd.prog (oCall 21 args) w K := pN_callQ (f := 21) (fun a w => call_lzenc_Encoder_code a w) h
theorem pc_symbol_Apply {args : List Value} (h : Calls Tryd.prog 22 args.toArray w (retP K)) : pN Tryd.prog (oCall 22 args) w K := pN_callQ (f := 22) (fun a w => call_symbol_Apply a w) h
theorem pc_rcenc_Encoder_Bytes {args : List Value} (h : Calls Tryd.prog 23 args.toArray w (retP K)) : pN Tryd.prog (oCall 23 args) w K := pN_callQ (f := 23) (fun a w => call_rcenc_Encoder_Bytes a w) h
theorem pc_model_Tables_Fork {args : List Value} (h : Calls Tryd.prog 24 args.toArray w (retP K)) : pN Tryd.prog (oCall 24 args) w K := pN_callQ (f := 24) (fun a w => call_model_Tables_Fork a w) h
theorem pc_window_Window_Fork {args : List Value} (h : Calls Tryd.prog 25 args.toArray w (retP K)) : pN Tryd.prog (oCall 25 args) w K := pN_callQ (f := 25) (fun a w => call_window_Window_Fork a w) h
theorem pc_rcenc_Encoder_Fork {args : List Value} (h : Calls Tryd.prog 26 args.toArray w (retP K)) : pN Tryd.prog (oCall 26 args) w K := pN_callQ (f := 26) (fun a w => call_rcenc_Encoder_Fork a w) h
theorem pc_window_Window_Clear {args : List Value} (h : Calls Tryd.prog 27 args.toArray w (retP K)) : pN Tryd.prog (oCall 27 args) w K := pN_callQ (f := 27) (fun a w => call_window_Window_Clear a w) h
theorem pc_state_New {args : List Value} (h : Calls Tryd.prog 28 args.toArray w (retP K)) : pN Tryd.prog (oCall 28 args) w K := pN_callQ (f := 28) (fun a w => call_state_New a w) h
theorem pc_model_row {args : List Value} (h : Calls Tryd.prog 29 args.toArray w (retP K)) : pN Tryd.prog (oCall 29 args) w K := pN_callQ (f := 29) (fun a w => call_model_row a w) h
theorem pc_model_lengths {args : List Value} (h : Calls Tryd.prog 30 args.toArray w (retP K)) : pN Tryd.prog (oCall 30 args) w K := pN_callQ (f := 30) (fun a w => call_model_lengths a w) h
theorem pc_state_State_Next {args : List Value} (h : Calls Tryd.prog 31 args.toArray w (retP K)) : pN Tryd.prog (oCall 31 args) w K := pN_callQ (f := 31) (fun a w => call_state_State_Next a w) h
theorem pc_window_Window_Last {args : List Value} (h : Calls Tryd.prog 32 args.toArray w (retP K)) : pN Tryd.prog (oCall 32 args) w K := pN_callQ (f := 32) (fun a w => call_window_Window_Last a w) h
theorem pc_model_Tables_At {args : List Value} (h : Calls Tryd.prog 33 args.toArray w (retP K)) : pN Tryd.prog (oCall 33 args) w K := pN_callQ (f := 33) (fun a w => call_model_Tables_At a w) h
theorem pc_window_Window_Pos {args : List Value} (h : Calls Tryd.prog 34 args.toArray w (retP K)) : pN Tryd.prog (oCall 34 args) w K := pN_callQ (f := 34) (fun a w => call_window_Window_Pos a w) h
theorem pc_lzenc_Encoder_literal {args : List Value} (h : Calls Tryd.prog 35 args.toArray w (retP K)) : pN Tryd.prog (oCall 35 args) w K := pN_callQ (f := 35) (fun a w => call_lzenc_Encoder_literal a w) h
theorem pc_lzenc_Encoder_length {args : List Value} (h : Calls Tryd.prog 36 args.toArray w (retP K)) : pN Tryd.prog (oCall 36 args) w K := pN_callQ (f := 36) (fun a w => call_lzenc_Encoder_length a w) h
theorem pc_lzenc_Encoder_distance {args : List Value} (h : Calls Tryd.prog 37 args.toArray w (retP K)) : pN Tryd.prog (oCall 37 args) w K := pN_callQ (f := 37) (fun a w => call_lzenc_Encoder_distance a w) h
theorem pc_window_Window_Put {args : List Value} (h : Calls Tryd.prog 38 args.toArray w (retP K)) : pN Tryd.prog (oCall 38 args) w K := pN_callQ (f := 38) (fun a w => call_window_Window_Put a w) h
theorem pc_window_Window_Copy {args : List Value} (h : Calls Tryd.prog 39 args.toArray w (retP K)) : pN Tryd.prog (oCall 39 args) w K := pN_callQ (f := 39) (fun a w => call_window_Window_Copy a w) h
theorem pc_rcenc_Encoder_shift {args : List Value} (h : Calls Tryd.prog 40 args.toArray w (retP K)) : pN Tryd.prog (oCall 40 args) w K := pN_callQ (f := 40) (fun a w => call_rcenc_Encoder_shift a w) h
theorem pc_prob_Set_Fork {args : List Value} (h : Calls Tryd.prog 41 args.toArray w (retP K)) : pN Tryd.prog (oCall 41 args) w K := pN_callQ (f := 41) (fun a w => call_prob_Set_Fork a w) h
theorem pc_model_Lengths_fork {args : List Value} (h : Calls Tryd.prog 42 args.toArray w (retP K)) : pN Tryd.prog (oCall 42 args) w K := pN_callQ (f := 42) (fun a w => call_model_Lengths_fork a w) h
theorem pc_prob_New {args : List Value} (h : Calls Tryd.prog 43 args.toArray w (retP K)) : pN Tryd.prog (oCall 43 args) w K := pN_callQ (f := 43) (fun a w => call_prob_New a w) h
theorem pc_state_State_right {args : List Value} (h : Calls Tryd.prog 44 args.toArray w (retP K)) : pN Tryd.prog (oCall 44 args) w K := pN_callQ (f := 44) (fun a w => call_state_State_right a w) h
theorem pc_state_isLen {args : List Value} (h : Calls Tryd.prog 45 args.toArray w (retP K)) : pN Tryd.prog (oCall 45 args) w K := pN_callQ (f := 45) (fun a w => call_state_isLen a w) h
theorem pc_state_isDist {args : List Value} (h : Calls Tryd.prog 46 args.toArray w (retP K)) : pN Tryd.prog (oCall 46 args) w K := pN_callQ (f := 46) (fun a w => call_state_isDist a w) h
theorem pc_window_Window_in {args : List Value} (h : Calls Tryd.prog 47 args.toArray w (retP K)) : pN Tryd.prog (oCall 47 args) w K := pN_callQ (f := 47) (fun a w => call_window_Window_in a w) h
theorem pc_window_Window_back {args : List Value} (h : Calls Tryd.prog 48 args.toArray w (retP K)) : pN Tryd.prog (oCall 48 args) w K := pN_callQ (f := 48) (fun a w => call_window_Window_back a w) h
theorem pc_model_Tables_PlaceState {args : List Value} (h : Calls Tryd.prog 49 args.toArray w (retP K)) : pN Tryd.prog (oCall 49 args) w K := pN_callQ (f := 49) (fun a w => call_model_Tables_PlaceState a w) h
theorem pc_model_Tables_Context {args : List Value} (h : Calls Tryd.prog 50 args.toArray w (retP K)) : pN Tryd.prog (oCall 50 args) w K := pN_callQ (f := 50) (fun a w => call_model_Tables_Context a w) h
theorem pc_state_State_Literal {args : List Value} (h : Calls Tryd.prog 51 args.toArray w (retP K)) : pN Tryd.prog (oCall 51 args) w K := pN_callQ (f := 51) (fun a w => call_state_State_Literal a w) h
theorem pc_state_Slot {args : List Value} (h : Calls Tryd.prog 52 args.toArray w (retP K)) : pN Tryd.prog (oCall 52 args) w K := pN_callQ (f := 52) (fun a w => call_state_Slot a w) h
theorem pc_state_Range {args : List Value} (h : Calls Tryd.prog 53 args.toArray w (retP K)) : pN Tryd.prog (oCall 53 args) w K := pN_callQ (f := 53) (fun a w => call_state_Range a w) h
theorem pc_model_Late {args : List Value} (h : Calls Tryd.prog 54 args.toArray w (retP K)) : pN Tryd.prog (oCall 54 args) w K := pN_callQ (f := 54) (fun a w => call_model_Late a w) h
theorem pc_model_RestAt {args : List Value} (h : Calls Tryd.prog 55 args.toArray w (retP K)) : pN Tryd.prog (oCall 55 args) w K := pN_callQ (f := 55) (fun a w => call_model_RestAt a w) h
theorem pc_prob_Set_Reset {args : List Value} (h : Calls Tryd.prog 56 args.toArray w (retP K)) : pN Tryd.prog (oCall 56 args) w K := pN_callQ (f := 56) (fun a w => call_prob_Set_Reset a w) h
theorem pc_math_bits_Len {args : List Value} (h : Calls Tryd.prog 57 args.toArray w (retP K)) : pN Tryd.prog (oCall 57 args) w K := pN_callQ (f := 57) (fun a w => call_math_bits_Len a w) h
theorem pc_math_bits_Len32 {args : List Value} (h : Calls Tryd.prog 58 args.toArray w (retP K)) : pN Tryd.prog (oCall 58 args) w K := pN_callQ (f := 58) (fun a w => call_math_bits_Len32 a w) h
theorem pc_math_bits_Len64 {args : List Value} (h : Calls Tryd.prog 59 args.toArray w (retP K)) : pN Tryd.prog (oCall 59 args) w K := pN_callQ (f := 59) (fun a w => call_math_bits_Len64 a w) h
theorem pc_lzenc_coding_back {args : List Value} (h : Calls Tryd.prog 75 args.toArray w (retP K)) : pN Tryd.prog (oCall 75 args) w K := pN_callQ (f := 75) (fun a w => call_lzenc_coding_back a w) h
theorem pc_lzenc_coding_bit {args : List Value} (h : Calls Tryd.prog 76 args.toArray w (retP K)) : pN Tryd.prog (oCall 76 args) w K := pN_callQ (f := 76) (fun a w => call_lzenc_coding_bit a w) h
theorem pc_lzenc_coding_direct {args : List Value} (h : Calls Tryd.prog 77 args.toArray w (retP K)) : pN Tryd.prog (oCall 77 args) w K := pN_callQ (f := 77) (fun a w => call_lzenc_coding_direct a w) h
theorem pc_lzenc_coding_tree {args : List Value} (h : Calls Tryd.prog 78 args.toArray w (retP K)) : pN Tryd.prog (oCall 78 args) w K := pN_callQ (f := 78) (fun a w => call_lzenc_coding_tree a w) h
theorem pc_tree_PutBack {args : List Value} (h : Calls Tryd.prog 79 args.toArray w (retP K)) : pN Tryd.prog (oCall 79 args) w K := pN_callQ (f := 79) (fun a w => call_tree_PutBack a w) h
theorem pc_rcenc_Encoder_Bit {args : List Value} (h : Calls Tryd.prog 80 args.toArray w (retP K)) : pN Tryd.prog (oCall 80 args) w K := pN_callQ (f := 80) (fun a w => call_rcenc_Encoder_Bit a w) h
theorem pc_rcenc_Encoder_Direct {args : List Value} (h : Calls Tryd.prog 81 args.toArray w (retP K)) : pN Tryd.prog (oCall 81 args) w K := pN_callQ (f := 81) (fun a w => call_rcenc_Encoder_Direct a w) h
theorem pc_tree_Put {args : List Value} (h : Calls Tryd.prog 82 args.toArray w (retP K)) : pN Tryd.prog (oCall 82 args) w K := pN_callQ (f := 82) (fun a w => call_tree_Put a w) h
theorem pc_tree_put {args : List Value} (h : Calls Tryd.prog 83 args.toArray w (retP K)) : pN Tryd.prog (oCall 83 args) w K := pN_callQ (f := 83) (fun a w => call_tree_put a w) h
theorem pc_prob_Set_At {args : List Value} (h : Calls Tryd.prog 84 args.toArray w (retP K)) : pN Tryd.prog (oCall 84 args) w K := pN_callQ (f := 84) (fun a w => call_prob_Set_At a w) h
theorem pc_prob_Bound {args : List Value} (h : Calls Tryd.prog 85 args.toArray w (retP K)) : pN Tryd.prog (oCall 85 args) w K := pN_callQ (f := 85) (fun a w => call_prob_Bound a w) h
theorem pc_rcenc_Encoder_widen {args : List Value} (h : Calls Tryd.prog 86 args.toArray w (retP K)) : pN Tryd.prog (oCall 86 args) w K := pN_callQ (f := 86) (fun a w => call_rcenc_Encoder_widen a w) h
theorem pc_prob_Set_Turn {args : List Value} (h : Calls Tryd.prog 87 args.toArray w (retP K)) : pN Tryd.prog (oCall 87 args) w K := pN_callQ (f := 87) (fun a w => call_prob_Set_Turn a w) h
theorem pc_tree_there {args : List Value} (h : Calls Tryd.prog 88 args.toArray w (retP K)) : pN Tryd.prog (oCall 88 args) w K := pN_callQ (f := 88) (fun a w => call_tree_there a w) h
theorem pc_tree_holds {args : List Value} (h : Calls Tryd.prog 89 args.toArray w (retP K)) : pN Tryd.prog (oCall 89 args) w K := pN_callQ (f := 89) (fun a w => call_tree_holds a w) h
theorem pc_tree_down {args : List Value} (h : Calls Tryd.prog 90 args.toArray w (retP K)) : pN Tryd.prog (oCall 90 args) w K := pN_callQ (f := 90) (fun a w => call_tree_down a w) h
theorem pc_tree_put_c1 {args : List Value} (h : Calls Tryd.prog 91 args.toArray w (retP K)) : pN Tryd.prog (oCall 91 args) w K := pN_callQ (f := 91) (fun a w => call_tree_put_c1 a w) h
theorem pv_tree_put_c1 {cap args : List Value} (h : Calls Tryd.prog 91 (args ++ cap).toArray w (retP K)) : pN Tryd.prog (oCallV (.func (.func 91) [].toArray cap.toArray) args) w K := pN_callV (f := 91) (fun a w => call_tree_put_c1 a w) h
theorem pc_tree_order {args : List Value} (h : Calls Tryd.prog 92 args.toArray w (retP K)) : pN Tryd.prog (oCall 92 args) w K := pN_callQ (f := 92) (fun a w => call_tree_order a w) h
theorem pc_prob_Set_has {args : List Value} (h : Calls Tryd.prog 93 args.toArray w (retP K)) : pN Tryd.prog (oCall 93 args) w K := pN_callQ (f := 93) (fun a w => call_prob_Set_has a w) h
theorem pc_prob_taken {args : List Value} (h : Calls Tryd.prog 94 args.toArray w (retP K)) : pN Tryd.prog (oCall 94 args) w K := pN_callQ (f := 94) (fun a w => call_prob_taken a w) h
theorem pc_prob_Next {args : List Value} (h : Calls Tryd.prog 95 args.toArray w (retP K)) : pN Tryd.prog (oCall 95 args) w K := pN_callQ (f := 95) (fun a w => call_prob_Next a w) h
theorem pc_prob_Set_Len {args : List Value} (h : Calls Tryd.prog 96 args.toArray w (retP K)) : pN Tryd.prog (oCall 96 args) w K := pN_callQ (f := 96) (fun a w => call_prob_Set_Len a w) h
theorem pc_lzenc_costing_back {args : List Value} (h : Calls Tryd.prog 97 args.toArray w (retP K)) : pN Tryd.prog (oCall 97 args) w K := pN_callQ (f := 97) (fun a w => call_lzenc_costing_back a w) h
theorem pc_lzenc_costing_bit {args : List Value} (h : Calls Tryd.prog 98 args.toArray w (retP K)) : pN Tryd.prog (oCall 98 args) w K := pN_callQ (f := 98) (fun a w => call_lzenc_costing_bit a w) h
theorem pc_lzenc_costing_direct {args : List Value} (h : Calls Tryd.prog 99 args.toArray w (retP K)) : pN Tryd.prog (oCall 99 args) w K := pN_callQ (f := 99) (fun a w => call_lzenc_costing_direct a w) h
theorem pc_lzenc_costing_tree {args : List Value} (h : Calls Tryd.prog 100 args.toArray w (retP K)) : pN Tryd.prog (oCall 100 args) w K := pN_callQ (f := 100) (fun a w => call_lzenc_costing_tree a w) h
theorem pc_tree_CostBack {args : List Value} (h : Calls Tryd.prog 101 args.toArray w (retP K)) : pN Tryd.prog (oCall 101 args) w K := pN_callQ (f := 101) (fun a w => call_tree_CostBack a w) h
theorem pc_prob_Cost {args : List Value} (h : Calls Tryd.prog 102 args.toArray w (retP K)) : pN Tryd.prog (oCall 102 args) w K := pN_callQ (f := 102) (fun a w => call_prob_Cost a w) h
theorem pc_tree_Cost {args : List Value} (h : Calls Tryd.prog 103 args.toArray w (retP K)) : pN Tryd.prog (oCall 103 args) w K := pN_callQ (f := 103) (fun a w => call_tree_Cost a w) h
theorem pc_tree_cost {args : List Value} (h : Calls Tryd.prog 104 args.toArray w (retP K)) : pN Tryd.prog (oCall 104 args) w K := pN_callQ (f := 104) (fun a w => call_tree_cost a w) h
theorem pc_prob_costing {args : List Value} (h : Calls Tryd.prog 105 args.toArray w (retP K)) : pN Tryd.prog (oCall 105 args) w K := pN_callQ (f := 105) (fun a w => call_prob_costing a w) h
theorem pc_tree_cost_c1 {args : List Value} (h : Calls Tryd.prog 106 args.toArray w (retP K)) : pN Tryd.prog (oCall 106 args) w K := pN_callQ (f := 106) (fun a w => call_tree_cost_c1 a w) h
theorem pv_tree_cost_c1 {cap args : List Value} (h : Calls Tryd.prog 106 (args ++ cap).toArray w (retP K)) : pN Tryd.prog (oCallV (.func (.func 106) [].toArray cap.toArray) args) w K := pN_callV (f := 106) (fun a w => call_tree_cost_c1 a w) h
theorem pc_gosem_cut_vars {args : List Value} (h : Calls Tryd.prog 114 args.toArray w (retP K)) : pN Tryd.prog (oCall 114 args) w K := pN_callQ (f := 114) (fun a w => call_gosem_cut_vars a w) h
end

attribute [go_sem] pN_conv_int_uint32 pA_conv_int_uint32 pL_conv_int_uint32 pN_conv_int_uint pA_conv_int_uint pL_conv_int_uint pN_conv_uint8_int pA_conv_uint8_int pL_conv_uint8_int pN_conv_uint32_uint8 pA_conv_uint32_uint8 pL_conv_uint32_uint8 pN_conv_uint32_uint64 pA_conv_uint32_uint64 pL_conv_uint32_uint64 pN_conv_uint64_uint8 pA_conv_uint64_uint8 pL_conv_uint64_uint8 pN_conv_uint_int pA_conv_uint_int pL_conv_uint_int pN_conv_uint_uint32 pA_conv_uint_uint32 pL_conv_uint_uint32 pN_len_sl_api_Symbol pA_len_sl_api_Symbol pN_len_sl_uint8 pA_len_sl_uint8 pN_len_sl_p_p_prob_Set pA_len_sl_p_p_prob_Set pN_len_sl_int pA_len_sl_int pN_aidx_arr4_int pA_aidx_arr4_int pN_aidx_arr12_int pA_aidx_arr12_int pN_eql_p_lzenc_Encoder pA_eql_p_lzenc_Encoder pN_neq_p_lzenc_Encoder pA_neq_p_lzenc_Encoder pN_fld_api_Props_LC pA_fld_api_Props_LC pN_fld_api_Props_LP pA_fld_api_Props_LP pN_fld_api_Props_PB pA_fld_api_Props_PB pN_fld_pithlaw14_Setup_Props pA_fld_pithlaw14_Setup_Props pN_fld_pithlaw14_Setup_Dict pA_fld_pithlaw14_Setup_Dict pN_fld_api_Symbol_Kind pA_fld_api_Symbol_Kind pN_fld_api_Symbol_Byte pA_fld_api_Symbol_Byte pN_fld_api_Symbol_Len pA_fld_api_Symbol_Len pN_fld_api_Symbol_Dist pA_fld_api_Symbol_Dist pN_fld_lzenc_Encoder_Tables pA_fld_lzenc_Encoder_Tables pN_fld_lzenc_Encoder_w pA_fld_lzenc_Encoder_w pN_fld_lzenc_Encoder_e pA_fld_lzenc_Encoder_e pN_fld_lzenc_coding_e pA_fld_lzenc_coding_e pN_fld_state_State_Num pA_fld_state_State_Num pN_fld_state_State_Reps pA_fld_state_State_Reps pN_fld_model_Lengths_Choice pA_fld_model_Lengths_Choice pN_fld_model_Lengths_Low pA_fld_model_Lengths_Low pN_fld_model_Lengths_Mid pA_fld_model_Lengths_Mid pN_fld_model_Lengths_High pA_fld_model_Lengths_High pN_fld_model_Tables_Props pA_fld_model_Tables_Props pN_fld_model_Tables_State pA_fld_model_Tables_State pN_fld_model_Tables_IsMatch pA_fld_model_Tables_IsMatch pN_fld_model_Tables_IsLong pA_fld_model_Tables_IsLong pN_fld_model_Tables_IsRep pA_fld_model_Tables_IsRep pN_fld_model_Tables_IsRep0 pA_fld_model_Tables_IsRep0 pN_fld_model_Tables_IsRep1 pA_fld_model_Tables_IsRep1 pN_fld_model_Tables_IsRep2 pA_fld_model_Tables_IsRep2 pN_fld_model_Tables_Literal pA_fld_model_Tables_Literal pN_fld_model_Tables_Match pA_fld_model_Tables_Match pN_fld_model_Tables_Rep pA_fld_model_Tables_Rep pN_fld_model_Tables_Slot pA_fld_model_Tables_Slot pN_fld_model_Tables_Rest pA_fld_model_Tables_Rest pN_fld_model_Tables_Align pA_fld_model_Tables_Align pN_fld_lzenc_costing_sum pA_fld_lzenc_costing_sum pN_fld_window_Window_size pA_fld_window_Window_size pN_fld_window_Window_ring pA_fld_window_Window_ring pN_fld_window_Window_at pA_fld_window_Window_at pN_fld_window_Window_pos pA_fld_window_Window_pos pN_fld_rcenc_Encoder_low pA_fld_rcenc_Encoder_low pN_fld_rcenc_Encoder_rng pA_fld_rcenc_Encoder_rng pN_fld_rcenc_Encoder_held pA_fld_rcenc_Encoder_held pN_fld_rcenc_Encoder_wait pA_fld_rcenc_Encoder_wait pN_fld_rcenc_Encoder_out pA_fld_rcenc_Encoder_out pN_fld_prob_Set_p pA_fld_prob_Set_p

end Go.Proofs.YtbgnnjfpiblkmaaDoor
