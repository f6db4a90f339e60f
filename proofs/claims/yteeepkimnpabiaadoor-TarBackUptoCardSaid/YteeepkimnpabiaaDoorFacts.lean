/-
  Closed facts of the translation, under names. Printed by a program of mine (facts.py).
-/
import Derived.Test.YteeepkimnpabiaaDoorRows
import Derived.Test.YteeepkimnpabiaaDoorKey
import Derived.Test.YteeepkimnpabiaaDoorDefer
namespace Go.Proofs.YteeepkimnpabiaaDoor
open Go
set_option linter.unusedSimpArgs false
set_option linter.unnecessarySimpa false
set_option linter.unusedSectionVars false
set_option linter.unusedVariables false

theorem mixed : Tryd.prog.follows .mixedOrders = true := by kernel_rfl
section
variable [Pan] {w : World} {K : Value → World → Prop} {J : Value → Prop}

theorem un_int : Tryd.prog.underlying 3 = some (.int .i64) := Tryd.underlying3
theorem na_int (w : World) : (isAgg 3).run Tryd.prog w = .ok false w := Tryd.isAgg3 w
theorem sz_int (w : World) : (sizeOf 3).run Tryd.prog w = .ok 1 w := Tryd.sizeOf3 w
theorem zv_int (w : World) : (zeroValue 3).run Tryd.prog w = .ok (.int .i64 0) w := Tryd.zeroValue3 w
theorem un_bool : Tryd.prog.underlying 4 = some (.bool) := Tryd.underlying4
theorem na_bool (w : World) : (isAgg 4).run Tryd.prog w = .ok false w := Tryd.isAgg4 w
theorem sz_bool (w : World) : (sizeOf 4).run Tryd.prog w = .ok 1 w := Tryd.sizeOf4 w
theorem zv_bool (w : World) : (zeroValue 4).run Tryd.prog w = .ok (.bool false) w := Tryd.zeroValue4 w
theorem un_uint8 : Tryd.prog.underlying 5 = some (.int .u8) := Tryd.underlying5
theorem na_uint8 (w : World) : (isAgg 5).run Tryd.prog w = .ok false w := Tryd.isAgg5 w
theorem sz_uint8 (w : World) : (sizeOf 5).run Tryd.prog w = .ok 1 w := Tryd.sizeOf5 w
theorem zv_uint8 (w : World) : (zeroValue 5).run Tryd.prog w = .ok (.int .u8 0) w := Tryd.zeroValue5 w
theorem un_string : Tryd.prog.underlying 9 = some (.string) := Tryd.underlying9
theorem na_string (w : World) : (isAgg 9).run Tryd.prog w = .ok false w := Tryd.isAgg9 w
theorem sz_string (w : World) : (sizeOf 9).run Tryd.prog w = .ok 1 w := Tryd.sizeOf9 w
theorem zv_string (w : World) : (zeroValue 9).run Tryd.prog w = .ok (.string ⟨#[]⟩) w := Tryd.zeroValue9 w
theorem un_sl_uint8 : Tryd.prog.underlying 22 = some (.slice 5) := Tryd.underlying22
theorem na_sl_uint8 (w : World) : (isAgg 22).run Tryd.prog w = .ok false w := Tryd.isAgg22 w
theorem sz_sl_uint8 (w : World) : (sizeOf 22).run Tryd.prog w = .ok 1 w := Tryd.sizeOf22 w
theorem zv_sl_uint8 (w : World) : (zeroValue 22).run Tryd.prog w = .ok (.slice none 0 0) w := Tryd.zeroValue22 w
theorem ag_api_Item (w : World) : (isAgg 24).run Tryd.prog w = .ok true w := Tryd.isAgg24 w
theorem sz_api_Item (w : World) : (sizeOf 24).run Tryd.prog w = .ok 6 w := Tryd.sizeOf24 w
theorem zv_api_Item (w : World) : (zeroValue 24).run Tryd.prog w = .ok (.agg #[(.string ⟨#[]⟩), (.string ⟨#[]⟩), (.int .i64 0), (.int .i64 0), (.int .i64 0), (.slice none 0 0)]) w := Tryd.zeroValue24 w
theorem un_api_Errno : Tryd.prog.underlying 25 = some (.int .i64) := Tryd.underlying25
theorem na_api_Errno (w : World) : (isAgg 25).run Tryd.prog w = .ok false w := Tryd.isAgg25 w
theorem sz_api_Errno (w : World) : (sizeOf 25).run Tryd.prog w = .ok 1 w := Tryd.sizeOf25 w
theorem zv_api_Errno (w : World) : (zeroValue 25).run Tryd.prog w = .ok (.int .i64 0) w := Tryd.zeroValue25 w
theorem un_sl_api_Item : Tryd.prog.underlying 34 = some (.slice 24) := Tryd.underlying34
theorem na_sl_api_Item (w : World) : (isAgg 34).run Tryd.prog w = .ok false w := Tryd.isAgg34 w
theorem sz_sl_api_Item (w : World) : (sizeOf 34).run Tryd.prog w = .ok 1 w := Tryd.sizeOf34 w
theorem zv_sl_api_Item (w : World) : (zeroValue 34).run Tryd.prog w = .ok (.slice none 0 0) w := Tryd.zeroValue34 w
theorem na_iter_Seq2arrapi_Item__api_Errno_ (w : World) : (isAgg 51).run Tryd.prog w = .ok false w := Tryd.isAgg51 w
theorem sz_iter_Seq2arrapi_Item__api_Errno_ (w : World) : (sizeOf 51).run Tryd.prog w = .ok 1 w := Tryd.sizeOf51 w
theorem zv_iter_Seq2arrapi_Item__api_Errno_ (w : World) : (zeroValue 51).run Tryd.prog w = .ok .nilFunc w := Tryd.zeroValue51 w
theorem un_sl_int : Tryd.prog.underlying 54 = some (.slice 3) := Tryd.underlying54
theorem na_sl_int (w : World) : (isAgg 54).run Tryd.prog w = .ok false w := Tryd.isAgg54 w
theorem sz_sl_int (w : World) : (sizeOf 54).run Tryd.prog w = .ok 1 w := Tryd.sizeOf54 w
theorem zv_sl_int (w : World) : (zeroValue 54).run Tryd.prog w = .ok (.slice none 0 0) w := Tryd.zeroValue54 w
theorem un_sl_sl_uint8 : Tryd.prog.underlying 57 = some (.slice 22) := Tryd.underlying57
theorem na_sl_sl_uint8 (w : World) : (isAgg 57).run Tryd.prog w = .ok false w := Tryd.isAgg57 w
theorem sz_sl_sl_uint8 (w : World) : (sizeOf 57).run Tryd.prog w = .ok 1 w := Tryd.sizeOf57 w
theorem zv_sl_sl_uint8 (w : World) : (zeroValue 57).run Tryd.prog w = .ok (.slice none 0 0) w := Tryd.zeroValue57 w
theorem un_sl_string : Tryd.prog.underlying 58 = some (.slice 9) := Tryd.underlying58
theorem na_sl_string (w : World) : (isAgg 58).run Tryd.prog w = .ok false w := Tryd.isAgg58 w
theorem sz_sl_string (w : World) : (sizeOf 58).run Tryd.prog w = .ok 1 w := Tryd.sizeOf58 w
theorem zv_sl_string (w : World) : (zeroValue 58).run Tryd.prog w = .ok (.slice none 0 0) w := Tryd.zeroValue58 w
theorem na_func_sl_uint8_ (w : World) : (isAgg 59).run Tryd.prog w = .ok false w := Tryd.isAgg59 w
theorem sz_func_sl_uint8_ (w : World) : (sizeOf 59).run Tryd.prog w = .ok 1 w := Tryd.sizeOf59 w
theorem zv_func_sl_uint8_ (w : World) : (zeroValue 59).run Tryd.prog w = .ok .nilFunc w := Tryd.zeroValue59 w
theorem ag_tar_head (w : World) : (isAgg 65).run Tryd.prog w = .ok true w := Tryd.isAgg65 w
theorem sz_tar_head (w : World) : (sizeOf 65).run Tryd.prog w = .ok 7 w := Tryd.sizeOf65 w
theorem zv_tar_head (w : World) : (zeroValue 65).run Tryd.prog w = .ok (.agg #[(.string ⟨#[]⟩), (.string ⟨#[]⟩), (.int .i64 0), (.int .i64 0), (.int .i64 0), (.slice none 0 0), (.int .i64 0)]) w := Tryd.zeroValue65 w
theorem un_sl_tar_field : Tryd.prog.underlying 69 = some (.slice 73) := Tryd.underlying69
theorem na_sl_tar_field (w : World) : (isAgg 69).run Tryd.prog w = .ok false w := Tryd.isAgg69 w
theorem sz_sl_tar_field (w : World) : (sizeOf 69).run Tryd.prog w = .ok 1 w := Tryd.sizeOf69 w
theorem zv_sl_tar_field (w : World) : (zeroValue 69).run Tryd.prog w = .ok (.slice none 0 0) w := Tryd.zeroValue69 w
theorem na_func_sl_uint8__p_tar_head_ (w : World) : (isAgg 71).run Tryd.prog w = .ok false w := Tryd.isAgg71 w
theorem sz_func_sl_uint8__p_tar_head_ (w : World) : (sizeOf 71).run Tryd.prog w = .ok 1 w := Tryd.sizeOf71 w
theorem zv_func_sl_uint8__p_tar_head_ (w : World) : (zeroValue 71).run Tryd.prog w = .ok .nilFunc w := Tryd.zeroValue71 w
theorem ag_tar_field (w : World) : (isAgg 73).run Tryd.prog w = .ok true w := Tryd.isAgg73 w
theorem sz_tar_field (w : World) : (sizeOf 73).run Tryd.prog w = .ok 4 w := Tryd.sizeOf73 w
theorem zv_tar_field (w : World) : (zeroValue 73).run Tryd.prog w = .ok (.agg #[(.int .i64 0), (.int .i64 0), .nilFunc, .nilFunc]) w := Tryd.zeroValue73 w
theorem ag_pithlaw33_Room (w : World) : (isAgg 75).run Tryd.prog w = .ok true w := Tryd.isAgg75 w
theorem sz_pithlaw33_Room (w : World) : (sizeOf 75).run Tryd.prog w = .ok 2 w := Tryd.sizeOf75 w
theorem zv_pithlaw33_Room (w : World) : (zeroValue 75).run Tryd.prog w = .ok (.agg #[(.slice none 0 0), (.slice none 0 0)]) w := Tryd.zeroValue75 w
theorem un_bytes_asciiSet : Tryd.prog.underlying 100 = some (.array 256 4) := Tryd.underlying100
theorem ag_bytes_asciiSet (w : World) : (isAgg 100).run Tryd.prog w = .ok true w := Tryd.isAgg100 w
theorem sz_bytes_asciiSet (w : World) : (sizeOf 100).run Tryd.prog w = .ok 256 w := Tryd.sizeOf100 w
theorem ag_unicode_utf8_acceptRange (w : World) : (isAgg 116).run Tryd.prog w = .ok true w := Tryd.isAgg116 w
theorem sz_unicode_utf8_acceptRange (w : World) : (sizeOf 116).run Tryd.prog w = .ok 2 w := Tryd.sizeOf116 w
theorem zv_unicode_utf8_acceptRange (w : World) : (zeroValue 116).run Tryd.prog w = .ok (.agg #[(.int .u8 0), (.int .u8 0)]) w := Tryd.zeroValue116 w
theorem un_arr16_utf8_acceptRange : Tryd.prog.underlying 117 = some (.array 16 116) := Tryd.underlying117
theorem ag_arr16_utf8_acceptRange (w : World) : (isAgg 117).run Tryd.prog w = .ok true w := Tryd.isAgg117 w
theorem sz_arr16_utf8_acceptRange (w : World) : (sizeOf 117).run Tryd.prog w = .ok 32 w := Tryd.sizeOf117 w
theorem zv_arr16_utf8_acceptRange (w : World) : (zeroValue 117).run Tryd.prog w = .ok (.agg #[(.int .u8 0), (.int .u8 0), (.int .u8 0), (.int .u8 0), (.int .u8 0), (.int .u8 0), (.int .u8 0), (.int .u8 0), (.int .u8 0), (.int .u8 0), (.int .u8 0), (.int .u8 0), (.int .u8 0), (.int .u8 0), (.int .u8 0), (.int .u8 0), (.int .u8 0), (.int .u8 0), (.int .u8 0), (.int .u8 0), (.int .u8 0), (.int .u8 0), (.int .u8 0), (.int .u8 0), (.int .u8 0), (.int .u8 0), (.int .u8 0), (.int .u8 0), (.int .u8 0), (.int .u8 0), (.int .u8 0), (.int .u8 0)]) w := Tryd.zeroValue117 w
theorem st_sl_uint8 : SlT Tryd.prog 22 5 (.int .u8 0) 1 1 := ⟨Tryd.underlying22, info_parts (by kernel_rfl), rfl, by decide⟩
theorem st_sl_api_Item : SlT Tryd.prog 34 24 (.agg #[(.string ⟨#[]⟩), (.string ⟨#[]⟩), (.int .i64 0), (.int .i64 0), (.int .i64 0), (.slice none 0 0)]) 6 80 := ⟨Tryd.underlying34, info_parts (by kernel_rfl), rfl, by decide⟩
theorem st_sl_int : SlT Tryd.prog 54 3 (.int .i64 0) 1 8 := ⟨Tryd.underlying54, info_parts (by kernel_rfl), rfl, by decide⟩
theorem st_sl_sl_uint8 : SlT Tryd.prog 57 22 (.slice none 0 0) 1 24 := ⟨Tryd.underlying57, info_parts (by kernel_rfl), rfl, by decide⟩
theorem st_sl_string : SlT Tryd.prog 58 9 (.string ⟨#[]⟩) 1 16 := ⟨Tryd.underlying58, info_parts (by kernel_rfl), rfl, by decide⟩
theorem st_sl_tar_field : SlT Tryd.prog 69 73 (.agg #[(.int .i64 0), (.int .i64 0), .nilFunc, .nilFunc]) 4 32 := ⟨Tryd.underlying69, info_parts (by kernel_rfl), rfl, by decide⟩
theorem pN_conv_int_uint8 (k : IntKind) (n : Int) : pN Tryd.prog (oConv 3 5 (.int k n)) w K = K (.int .u8 (IntKind.wrap .u8 n)) w := pN_conv k n Tryd.underlying3 Tryd.underlying5
theorem pA_conv_int_uint8 (k : IntKind) (n : Int) : pA Tryd.prog (oConv 3 5 (.int k n)) J = J (.int .u8 (IntKind.wrap .u8 n)) := pA_conv k n Tryd.underlying3 Tryd.underlying5
theorem pL_conv_int_uint8 (k : IntKind) (n : Int) : pL Tryd.prog (oConv 3 5 (.int k n)) w J = J (.int .u8 (IntKind.wrap .u8 n)) := pL_conv k n Tryd.underlying3 Tryd.underlying5
theorem pN_conv_uint8_int (k : IntKind) (n : Int) : pN Tryd.prog (oConv 5 3 (.int k n)) w K = K (.int .i64 (IntKind.wrap .i64 n)) w := pN_conv k n Tryd.underlying5 Tryd.underlying3
theorem pA_conv_uint8_int (k : IntKind) (n : Int) : pA Tryd.prog (oConv 5 3 (.int k n)) J = J (.int .i64 (IntKind.wrap .i64 n)) := pA_conv k n Tryd.underlying5 Tryd.underlying3
theorem pL_conv_uint8_int (k : IntKind) (n : Int) : pL Tryd.prog (oConv 5 3 (.int k n)) w J = J (.int .i64 (IntKind.wrap .i64 n)) := pL_conv k n Tryd.underlying5 Tryd.underlying3
theorem pN_conv_uint8_int32 (k : IntKind) (n : Int) : pN Tryd.prog (oConv 5 21 (.int k n)) w K = K (.int .i32 (IntKind.wrap .i32 n)) w := pN_conv k n Tryd.underlying5 Tryd.underlying21
theorem pA_conv_uint8_int32 (k : IntKind) (n : Int) : pA Tryd.prog (oConv 5 21 (.int k n)) J = J (.int .i32 (IntKind.wrap .i32 n)) := pA_conv k n Tryd.underlying5 Tryd.underlying21
theorem pL_conv_uint8_int32 (k : IntKind) (n : Int) : pL Tryd.prog (oConv 5 21 (.int k n)) w J = J (.int .i32 (IntKind.wrap .i32 n)) := pL_conv k n Tryd.underlying5 Tryd.underlying21
theorem run_str_sl_uint8 {v : Value} {n : Nat} {l : List UInt8} (hr : Rd w 1 v n (bvs l)) : (oConv 22 9 v).run Tryd.prog w = .ok (.value (.string ⟨l.toArray⟩)) w := run_str Tryd.underlying22 Tryd.underlying5 Tryd.underlying9 hr.len
theorem pN_str_sl_uint8 {v : Value} {n : Nat} {l : List UInt8} (hr : Rd w 1 v n (bvs l)) : pN Tryd.prog (oConv 22 9 v) w K = K (.string ⟨l.toArray⟩) w := by rw [pN_def, run_str_sl_uint8 hr, rN_value]
theorem pL_str_sl_uint8 {v : Value} {n : Nat} {l : List UInt8} (hr : Rd w 1 v n (bvs l)) : pL Tryd.prog (oConv 22 9 v) w J = J (.string ⟨l.toArray⟩) := by rw [pL_def, run_str_sl_uint8 hr, rL_value]
theorem pN_len_sl_uint8 (ty : TypeId) (ao : Option Addr) (n c : Nat) (cs : List Bool) : pN Tryd.prog (oBi .len #[22] ty cs [.slice ao n c]) w K = K (.int .i64 n) w := pN_len 22 ty ao n c cs Tryd.underlying22
theorem pA_len_sl_uint8 (ty : TypeId) (ao : Option Addr) (n c : Nat) (cs : List Bool) : pA Tryd.prog (oBi .len #[22] ty cs [.slice ao n c]) J = J (.int .i64 n) := pA_len 22 ty ao n c cs Tryd.underlying22
theorem pN_len_sl_uint8_rd {v : Value} (ty : TypeId) {n s : Nat} {xs : List Value} (cs : List Bool) (hr : Rd w s v n xs) : pN Tryd.prog (oBi .len #[22] ty cs [v]) w K = K (.int .i64 n) w := by obtain ⟨_, ao, cap, rfl, _⟩ := hr; exact pN_len_sl_uint8 ty ao n cap cs
theorem pA_len_sl_uint8_rd {v : Value} (ty : TypeId) {n s : Nat} {xs : List Value} (cs : List Bool) (hr : Rd w s v n xs) : pA Tryd.prog (oBi .len #[22] ty cs [v]) J = J (.int .i64 n) := by obtain ⟨_, ao, cap, rfl, _⟩ := hr; exact pA_len_sl_uint8 ty ao n cap cs
theorem pN_len_sl_api_Item (ty : TypeId) (ao : Option Addr) (n c : Nat) (cs : List Bool) : pN Tryd.prog (oBi .len #[34] ty cs [.slice ao n c]) w K = K (.int .i64 n) w := pN_len 34 ty ao n c cs Tryd.underlying34
theorem pA_len_sl_api_Item (ty : TypeId) (ao : Option Addr) (n c : Nat) (cs : List Bool) : pA Tryd.prog (oBi .len #[34] ty cs [.slice ao n c]) J = J (.int .i64 n) := pA_len 34 ty ao n c cs Tryd.underlying34
theorem pN_len_sl_api_Item_rd {v : Value} (ty : TypeId) {n s : Nat} {xs : List Value} (cs : List Bool) (hr : Rd w s v n xs) : pN Tryd.prog (oBi .len #[34] ty cs [v]) w K = K (.int .i64 n) w := by obtain ⟨_, ao, cap, rfl, _⟩ := hr; exact pN_len_sl_api_Item ty ao n cap cs
theorem pA_len_sl_api_Item_rd {v : Value} (ty : TypeId) {n s : Nat} {xs : List Value} (cs : List Bool) (hr : Rd w s v n xs) : pA Tryd.prog (oBi .len #[34] ty cs [v]) J = J (.int .i64 n) := by obtain ⟨_, ao, cap, rfl, _⟩ := hr; exact pA_len_sl_api_Item ty ao n cap cs
theorem pN_len_sl_int (ty : TypeId) (ao : Option Addr) (n c : Nat) (cs : List Bool) : pN Tryd.prog (oBi .len #[54] ty cs [.slice ao n c]) w K = K (.int .i64 n) w := pN_len 54 ty ao n c cs Tryd.underlying54
theorem pA_len_sl_int (ty : TypeId) (ao : Option Addr) (n c : Nat) (cs : List Bool) : pA Tryd.prog (oBi .len #[54] ty cs [.slice ao n c]) J = J (.int .i64 n) := pA_len 54 ty ao n c cs Tryd.underlying54
theorem pN_len_sl_int_rd {v : Value} (ty : TypeId) {n s : Nat} {xs : List Value} (cs : List Bool) (hr : Rd w s v n xs) : pN Tryd.prog (oBi .len #[54] ty cs [v]) w K = K (.int .i64 n) w := by obtain ⟨_, ao, cap, rfl, _⟩ := hr; exact pN_len_sl_int ty ao n cap cs
theorem pA_len_sl_int_rd {v : Value} (ty : TypeId) {n s : Nat} {xs : List Value} (cs : List Bool) (hr : Rd w s v n xs) : pA Tryd.prog (oBi .len #[54] ty cs [v]) J = J (.int .i64 n) := by obtain ⟨_, ao, cap, rfl, _⟩ := hr; exact pA_len_sl_int ty ao n cap cs
theorem pN_len_sl_sl_uint8 (ty : TypeId) (ao : Option Addr) (n c : Nat) (cs : List Bool) : pN Tryd.prog (oBi .len #[57] ty cs [.slice ao n c]) w K = K (.int .i64 n) w := pN_len 57 ty ao n c cs Tryd.underlying57
theorem pA_len_sl_sl_uint8 (ty : TypeId) (ao : Option Addr) (n c : Nat) (cs : List Bool) : pA Tryd.prog (oBi .len #[57] ty cs [.slice ao n c]) J = J (.int .i64 n) := pA_len 57 ty ao n c cs Tryd.underlying57
theorem pN_len_sl_sl_uint8_rd {v : Value} (ty : TypeId) {n s : Nat} {xs : List Value} (cs : List Bool) (hr : Rd w s v n xs) : pN Tryd.prog (oBi .len #[57] ty cs [v]) w K = K (.int .i64 n) w := by obtain ⟨_, ao, cap, rfl, _⟩ := hr; exact pN_len_sl_sl_uint8 ty ao n cap cs
theorem pA_len_sl_sl_uint8_rd {v : Value} (ty : TypeId) {n s : Nat} {xs : List Value} (cs : List Bool) (hr : Rd w s v n xs) : pA Tryd.prog (oBi .len #[57] ty cs [v]) J = J (.int .i64 n) := by obtain ⟨_, ao, cap, rfl, _⟩ := hr; exact pA_len_sl_sl_uint8 ty ao n cap cs
theorem pN_len_sl_tar_field (ty : TypeId) (ao : Option Addr) (n c : Nat) (cs : List Bool) : pN Tryd.prog (oBi .len #[69] ty cs [.slice ao n c]) w K = K (.int .i64 n) w := pN_len 69 ty ao n c cs Tryd.underlying69
theorem pA_len_sl_tar_field (ty : TypeId) (ao : Option Addr) (n c : Nat) (cs : List Bool) : pA Tryd.prog (oBi .len #[69] ty cs [.slice ao n c]) J = J (.int .i64 n) := pA_len 69 ty ao n c cs Tryd.underlying69
theorem pN_len_sl_tar_field_rd {v : Value} (ty : TypeId) {n s : Nat} {xs : List Value} (cs : List Bool) (hr : Rd w s v n xs) : pN Tryd.prog (oBi .len #[69] ty cs [v]) w K = K (.int .i64 n) w := by obtain ⟨_, ao, cap, rfl, _⟩ := hr; exact pN_len_sl_tar_field ty ao n cap cs
theorem pA_len_sl_tar_field_rd {v : Value} (ty : TypeId) {n s : Nat} {xs : List Value} (cs : List Bool) (hr : Rd w s v n xs) : pA Tryd.prog (oBi .len #[69] ty cs [v]) J = J (.int .i64 n) := by obtain ⟨_, ao, cap, rfl, _⟩ := hr; exact pA_len_sl_tar_field ty ao n cap cs
theorem pN_aidx_bytes_asciiSet (b o : Nat) (k : IntKind) (i : Int) (h0 : 0 ≤ i) (h1 : i < 256) : pN Tryd.prog (oIdx 100 (.pointer (some ⟨b, o, none⟩)) (.int k i)) w K = K (.pointer (some ⟨b, o + i.toNat, none⟩)) w := pN_aidx Tryd.underlying100 Tryd.sizeOf4 b o k i h0 h1
theorem pA_aidx_bytes_asciiSet (b o : Nat) (k : IntKind) (i : Int) (h0 : 0 ≤ i) (h1 : i < 256) : pA Tryd.prog (oIdx 100 (.pointer (some ⟨b, o, none⟩)) (.int k i)) J = J (.pointer (some ⟨b, o + i.toNat, none⟩)) := pA_aidx Tryd.underlying100 Tryd.sizeOf4 b o k i h0 h1
theorem pN_aidx_arr256_uint8 (b o : Nat) (k : IntKind) (i : Int) (h0 : 0 ≤ i) (h1 : i < 256) : pN Tryd.prog (oIdx 114 (.pointer (some ⟨b, o, none⟩)) (.int k i)) w K = K (.pointer (some ⟨b, o + i.toNat, none⟩)) w := pN_aidx Tryd.underlying114 Tryd.sizeOf5 b o k i h0 h1
theorem pA_aidx_arr256_uint8 (b o : Nat) (k : IntKind) (i : Int) (h0 : 0 ≤ i) (h1 : i < 256) : pA Tryd.prog (oIdx 114 (.pointer (some ⟨b, o, none⟩)) (.int k i)) J = J (.pointer (some ⟨b, o + i.toNat, none⟩)) := pA_aidx Tryd.underlying114 Tryd.sizeOf5 b o k i h0 h1
theorem pN_eqlb_bool (xo yo : Operand) (p q : Bool) : pN Tryd.prog (oBin .eql 4 xo yo (.bool p) (.bool q)) w K = K (.bool (p == q)) w := pN_eql_bool 4 xo yo p q Tryd.underlying4
theorem pA_eqlb_bool (xo yo : Operand) (p q : Bool) : pA Tryd.prog (oBin .eql 4 xo yo (.bool p) (.bool q)) J = J (.bool (p == q)) := pA_eql_bool 4 xo yo p q Tryd.underlying4
theorem pN_neqb_bool (xo yo : Operand) (p q : Bool) : pN Tryd.prog (oBin .neq 4 xo yo (.bool p) (.bool q)) w K = K (.bool (p != q)) w := pN_neq_bool 4 xo yo p q Tryd.underlying4
theorem pA_neqb_bool (xo yo : Operand) (p q : Bool) : pA Tryd.prog (oBin .neq 4 xo yo (.bool p) (.bool q)) J = J (.bool (p != q)) := pA_neq_bool 4 xo yo p q Tryd.underlying4
theorem run_fld_api_Item_Name (b o : Nat) (w : World) : (oFld 24 (.pointer (some ⟨b, o, none⟩)) 0).run Tryd.prog w = .ok (.value (.pointer (some ⟨b, o, none⟩))) w := by kernel_rfl
theorem pN_fld_api_Item_Name (b o : Nat) : pN Tryd.prog (oFld 24 (.pointer (some ⟨b, o, none⟩)) 0) w K = K (.pointer (some ⟨b, o, none⟩)) w := by rw [pN_def, run_fld_api_Item_Name, rN_value]
theorem pA_fld_api_Item_Name (b o : Nat) : pA Tryd.prog (oFld 24 (.pointer (some ⟨b, o, none⟩)) 0) J = J (.pointer (some ⟨b, o, none⟩)) := by rw [pA_def, funext (run_fld_api_Item_Name b o), rA_value]
theorem run_fld_api_Item_Link (b o : Nat) (w : World) : (oFld 24 (.pointer (some ⟨b, o, none⟩)) 1).run Tryd.prog w = .ok (.value (.pointer (some ⟨b, o + 1, none⟩))) w := by kernel_rfl
theorem pN_fld_api_Item_Link (b o : Nat) : pN Tryd.prog (oFld 24 (.pointer (some ⟨b, o, none⟩)) 1) w K = K (.pointer (some ⟨b, o + 1, none⟩)) w := by rw [pN_def, run_fld_api_Item_Link, rN_value]
theorem pA_fld_api_Item_Link (b o : Nat) : pA Tryd.prog (oFld 24 (.pointer (some ⟨b, o, none⟩)) 1) J = J (.pointer (some ⟨b, o + 1, none⟩)) := by rw [pA_def, funext (run_fld_api_Item_Link b o), rA_value]
theorem run_fld_api_Item_Kind (b o : Nat) (w : World) : (oFld 24 (.pointer (some ⟨b, o, none⟩)) 2).run Tryd.prog w = .ok (.value (.pointer (some ⟨b, o + 2, none⟩))) w := by kernel_rfl
theorem pN_fld_api_Item_Kind (b o : Nat) : pN Tryd.prog (oFld 24 (.pointer (some ⟨b, o, none⟩)) 2) w K = K (.pointer (some ⟨b, o + 2, none⟩)) w := by rw [pN_def, run_fld_api_Item_Kind, rN_value]
theorem pA_fld_api_Item_Kind (b o : Nat) : pA Tryd.prog (oFld 24 (.pointer (some ⟨b, o, none⟩)) 2) J = J (.pointer (some ⟨b, o + 2, none⟩)) := by rw [pA_def, funext (run_fld_api_Item_Kind b o), rA_value]
theorem run_fld_api_Item_Mode (b o : Nat) (w : World) : (oFld 24 (.pointer (some ⟨b, o, none⟩)) 3).run Tryd.prog w = .ok (.value (.pointer (some ⟨b, o + 3, none⟩))) w := by kernel_rfl
theorem pN_fld_api_Item_Mode (b o : Nat) : pN Tryd.prog (oFld 24 (.pointer (some ⟨b, o, none⟩)) 3) w K = K (.pointer (some ⟨b, o + 3, none⟩)) w := by rw [pN_def, run_fld_api_Item_Mode, rN_value]
theorem pA_fld_api_Item_Mode (b o : Nat) : pA Tryd.prog (oFld 24 (.pointer (some ⟨b, o, none⟩)) 3) J = J (.pointer (some ⟨b, o + 3, none⟩)) := by rw [pA_def, funext (run_fld_api_Item_Mode b o), rA_value]
theorem run_fld_api_Item_Time (b o : Nat) (w : World) : (oFld 24 (.pointer (some ⟨b, o, none⟩)) 4).run Tryd.prog w = .ok (.value (.pointer (some ⟨b, o + 4, none⟩))) w := by kernel_rfl
theorem pN_fld_api_Item_Time (b o : Nat) : pN Tryd.prog (oFld 24 (.pointer (some ⟨b, o, none⟩)) 4) w K = K (.pointer (some ⟨b, o + 4, none⟩)) w := by rw [pN_def, run_fld_api_Item_Time, rN_value]
theorem pA_fld_api_Item_Time (b o : Nat) : pA Tryd.prog (oFld 24 (.pointer (some ⟨b, o, none⟩)) 4) J = J (.pointer (some ⟨b, o + 4, none⟩)) := by rw [pA_def, funext (run_fld_api_Item_Time b o), rA_value]
theorem run_fld_api_Item_Data (b o : Nat) (w : World) : (oFld 24 (.pointer (some ⟨b, o, none⟩)) 5).run Tryd.prog w = .ok (.value (.pointer (some ⟨b, o + 5, none⟩))) w := by kernel_rfl
theorem pN_fld_api_Item_Data (b o : Nat) : pN Tryd.prog (oFld 24 (.pointer (some ⟨b, o, none⟩)) 5) w K = K (.pointer (some ⟨b, o + 5, none⟩)) w := by rw [pN_def, run_fld_api_Item_Data, rN_value]
theorem pA_fld_api_Item_Data (b o : Nat) : pA Tryd.prog (oFld 24 (.pointer (some ⟨b, o, none⟩)) 5) J = J (.pointer (some ⟨b, o + 5, none⟩)) := by rw [pA_def, funext (run_fld_api_Item_Data b o), rA_value]
theorem run_fld_tar_head_Item (b o : Nat) (w : World) : (oFld 65 (.pointer (some ⟨b, o, none⟩)) 0).run Tryd.prog w = .ok (.value (.pointer (some ⟨b, o, none⟩))) w := by kernel_rfl
theorem pN_fld_tar_head_Item (b o : Nat) : pN Tryd.prog (oFld 65 (.pointer (some ⟨b, o, none⟩)) 0) w K = K (.pointer (some ⟨b, o, none⟩)) w := by rw [pN_def, run_fld_tar_head_Item, rN_value]
theorem pA_fld_tar_head_Item (b o : Nat) : pA Tryd.prog (oFld 65 (.pointer (some ⟨b, o, none⟩)) 0) J = J (.pointer (some ⟨b, o, none⟩)) := by rw [pA_def, funext (run_fld_tar_head_Item b o), rA_value]
theorem run_fld_tar_head_size (b o : Nat) (w : World) : (oFld 65 (.pointer (some ⟨b, o, none⟩)) 1).run Tryd.prog w = .ok (.value (.pointer (some ⟨b, o + 6, none⟩))) w := by kernel_rfl
theorem pN_fld_tar_head_size (b o : Nat) : pN Tryd.prog (oFld 65 (.pointer (some ⟨b, o, none⟩)) 1) w K = K (.pointer (some ⟨b, o + 6, none⟩)) w := by rw [pN_def, run_fld_tar_head_size, rN_value]
theorem pA_fld_tar_head_size (b o : Nat) : pA Tryd.prog (oFld 65 (.pointer (some ⟨b, o, none⟩)) 1) J = J (.pointer (some ⟨b, o + 6, none⟩)) := by rw [pA_def, funext (run_fld_tar_head_size b o), rA_value]
theorem run_fld_tar_field_at (b o : Nat) (w : World) : (oFld 73 (.pointer (some ⟨b, o, none⟩)) 0).run Tryd.prog w = .ok (.value (.pointer (some ⟨b, o, none⟩))) w := by kernel_rfl
theorem pN_fld_tar_field_at (b o : Nat) : pN Tryd.prog (oFld 73 (.pointer (some ⟨b, o, none⟩)) 0) w K = K (.pointer (some ⟨b, o, none⟩)) w := by rw [pN_def, run_fld_tar_field_at, rN_value]
theorem pA_fld_tar_field_at (b o : Nat) : pA Tryd.prog (oFld 73 (.pointer (some ⟨b, o, none⟩)) 0) J = J (.pointer (some ⟨b, o, none⟩)) := by rw [pA_def, funext (run_fld_tar_field_at b o), rA_value]
theorem run_fld_tar_field_n (b o : Nat) (w : World) : (oFld 73 (.pointer (some ⟨b, o, none⟩)) 1).run Tryd.prog w = .ok (.value (.pointer (some ⟨b, o + 1, none⟩))) w := by kernel_rfl
theorem pN_fld_tar_field_n (b o : Nat) : pN Tryd.prog (oFld 73 (.pointer (some ⟨b, o, none⟩)) 1) w K = K (.pointer (some ⟨b, o + 1, none⟩)) w := by rw [pN_def, run_fld_tar_field_n, rN_value]
theorem pA_fld_tar_field_n (b o : Nat) : pA Tryd.prog (oFld 73 (.pointer (some ⟨b, o, none⟩)) 1) J = J (.pointer (some ⟨b, o + 1, none⟩)) := by rw [pA_def, funext (run_fld_tar_field_n b o), rA_value]
theorem run_fld_tar_field_write (b o : Nat) (w : World) : (oFld 73 (.pointer (some ⟨b, o, none⟩)) 2).run Tryd.prog w = .ok (.value (.pointer (some ⟨b, o + 2, none⟩))) w := by kernel_rfl
theorem pN_fld_tar_field_write (b o : Nat) : pN Tryd.prog (oFld 73 (.pointer (some ⟨b, o, none⟩)) 2) w K = K (.pointer (some ⟨b, o + 2, none⟩)) w := by rw [pN_def, run_fld_tar_field_write, rN_value]
theorem pA_fld_tar_field_write (b o : Nat) : pA Tryd.prog (oFld 73 (.pointer (some ⟨b, o, none⟩)) 2) J = J (.pointer (some ⟨b, o + 2, none⟩)) := by rw [pA_def, funext (run_fld_tar_field_write b o), rA_value]
theorem run_fld_tar_field_read (b o : Nat) (w : World) : (oFld 73 (.pointer (some ⟨b, o, none⟩)) 3).run Tryd.prog w = .ok (.value (.pointer (some ⟨b, o + 3, none⟩))) w := by kernel_rfl
theorem pN_fld_tar_field_read (b o : Nat) : pN Tryd.prog (oFld 73 (.pointer (some ⟨b, o, none⟩)) 3) w K = K (.pointer (some ⟨b, o + 3, none⟩)) w := by rw [pN_def, run_fld_tar_field_read, rN_value]
theorem pA_fld_tar_field_read (b o : Nat) : pA Tryd.prog (oFld 73 (.pointer (some ⟨b, o, none⟩)) 3) J = J (.pointer (some ⟨b, o + 3, none⟩)) := by rw [pA_def, funext (run_fld_tar_field_read b o), rA_value]
theorem run_fld_pithlaw33_Room_L (b o : Nat) (w : World) : (oFld 75 (.pointer (some ⟨b, o, none⟩)) 0).run Tryd.prog w = .ok (.value (.pointer (some ⟨b, o, none⟩))) w := by kernel_rfl
theorem pN_fld_pithlaw33_Room_L (b o : Nat) : pN Tryd.prog (oFld 75 (.pointer (some ⟨b, o, none⟩)) 0) w K = K (.pointer (some ⟨b, o, none⟩)) w := by rw [pN_def, run_fld_pithlaw33_Room_L, rN_value]
theorem pA_fld_pithlaw33_Room_L (b o : Nat) : pA Tryd.prog (oFld 75 (.pointer (some ⟨b, o, none⟩)) 0) J = J (.pointer (some ⟨b, o, none⟩)) := by rw [pA_def, funext (run_fld_pithlaw33_Room_L b o), rA_value]
theorem run_fld_pithlaw33_Room_Full (b o : Nat) (w : World) : (oFld 75 (.pointer (some ⟨b, o, none⟩)) 1).run Tryd.prog w = .ok (.value (.pointer (some ⟨b, o + 1, none⟩))) w := by kernel_rfl
theorem pN_fld_pithlaw33_Room_Full (b o : Nat) : pN Tryd.prog (oFld 75 (.pointer (some ⟨b, o, none⟩)) 1) w K = K (.pointer (some ⟨b, o + 1, none⟩)) w := by rw [pN_def, run_fld_pithlaw33_Room_Full, rN_value]
theorem pA_fld_pithlaw33_Room_Full (b o : Nat) : pA Tryd.prog (oFld 75 (.pointer (some ⟨b, o, none⟩)) 1) J = J (.pointer (some ⟨b, o + 1, none⟩)) := by rw [pA_def, funext (run_fld_pithlaw33_Room_Full b o), rA_value]
theorem run_fld_unicode_utf8_acceptRange_lo (b o : Nat) (w : World) : (oFld 116 (.pointer (some ⟨b, o, none⟩)) 0).run Tryd.prog w = .ok (.value (.pointer (some ⟨b, o, none⟩))) w := by kernel_rfl
theorem pN_fld_unicode_utf8_acceptRange_lo (b o : Nat) : pN Tryd.prog (oFld 116 (.pointer (some ⟨b, o, none⟩)) 0) w K = K (.pointer (some ⟨b, o, none⟩)) w := by rw [pN_def, run_fld_unicode_utf8_acceptRange_lo, rN_value]
theorem pA_fld_unicode_utf8_acceptRange_lo (b o : Nat) : pA Tryd.prog (oFld 116 (.pointer (some ⟨b, o, none⟩)) 0) J = J (.pointer (some ⟨b, o, none⟩)) := by rw [pA_def, funext (run_fld_unicode_utf8_acceptRange_lo b o), rA_value]
theorem run_fld_unicode_utf8_acceptRange_hi (b o : Nat) (w : World) : (oFld 116 (.pointer (some ⟨b, o, none⟩)) 1).run Tryd.prog w = .ok (.value (.pointer (some ⟨b, o + 1, none⟩))) w := by kernel_rfl
theorem pN_fld_unicode_utf8_acceptRange_hi (b o : Nat) : pN Tryd.prog (oFld 116 (.pointer (some ⟨b, o, none⟩)) 1) w K = K (.pointer (some ⟨b, o + 1, none⟩)) w := by rw [pN_def, run_fld_unicode_utf8_acceptRange_hi, rN_value]
theorem pA_fld_unicode_utf8_acceptRange_hi (b o : Nat) : pA Tryd.prog (oFld 116 (.pointer (some ⟨b, o, none⟩)) 1) J = J (.pointer (some ⟨b, o + 1, none⟩)) := by rw [pA_def, funext (run_fld_unicode_utf8_acceptRange_hi b o), rA_value]
theorem call_pithlaw33_TarTold (args : Array Value) (w : World) : (callFunc 3 args).run Tryd.prog w = .ok (.enter 3 args) w := Tryd.call3 args w
theorem call_pithlaw33_TarExact (args : Array Value) (w : World) : (callFunc 4 args).run Tryd.prog w = .ok (.enter 4 args) w := Tryd.call4 args w
theorem call_pithlaw33_TarBack (args : Array Value) (w : World) : (callFunc 5 args).run Tryd.prog w = .ok (.enter 5 args) w := Tryd.call5 args w
theorem call_pithlaw33_TarSole (args : Array Value) (w : World) : (callFunc 6 args).run Tryd.prog w = .ok (.enter 6 args) w := Tryd.call6 args w
theorem call_pithlaw33_TarLists (args : Array Value) (w : World) : (callFunc 7 args).run Tryd.prog w = .ok (.enter 7 args) w := Tryd.call7 args w
theorem call_tar_Put (args : Array Value) (w : World) : (callFunc 8 args).run Tryd.prog w = .ok (.enter 8 args) w := Tryd.call8 args w
theorem call_pithlaw33_num (args : Array Value) (w : World) : (callFunc 9 args).run Tryd.prog w = .ok (.enter 9 args) w := Tryd.call9 args w
theorem call_pithlaw33_known (args : Array Value) (w : World) : (callFunc 10 args).run Tryd.prog w = .ok (.enter 10 args) w := Tryd.call10 args w
theorem call_tar_Get (args : Array Value) (w : World) : (callFunc 11 args).run Tryd.prog w = .ok (.enter 11 args) w := Tryd.call11 args w
theorem call_pithlaw33_same (args : Array Value) (w : World) : (callFunc 12 args).run Tryd.prog w = .ok (.enter 12 args) w := Tryd.call12 args w
theorem call_pithlaw33_room (args : Array Value) (w : World) : (callFunc 13 args).run Tryd.prog w = .ok (.enter 13 args) w := Tryd.call13 args w
theorem call_pithref33_Put (args : Array Value) (w : World) : (callFunc 14 args).run Tryd.prog w = .ok (.enter 14 args) w := Tryd.call14 args w
theorem call_tar_Write (args : Array Value) (w : World) : (callFunc 15 args).run Tryd.prog w = .ok (.enter 15 args) w := Tryd.call15 args w
theorem call_pithref33_Write (args : Array Value) (w : World) : (callFunc 16 args).run Tryd.prog w = .ok (.enter 16 args) w := Tryd.call16 args w
theorem call_pithlaw33_Room_kept (args : Array Value) (w : World) : (callFunc 17 args).run Tryd.prog w = .ok (.enter 17 args) w := Tryd.call17 args w
theorem call_pithref33_Get (args : Array Value) (w : World) : (callFunc 18 args).run Tryd.prog w = .ok (.enter 18 args) w := Tryd.call18 args w
theorem call_tar_Read (args : Array Value) (w : World) : (callFunc 19 args).run Tryd.prog w = .ok (.enter 19 args) w := Tryd.call19 args w
theorem call_pithref33_Read (args : Array Value) (w : World) : (callFunc 20 args).run Tryd.prog w = .ok (.enter 20 args) w := Tryd.call20 args w
theorem call_pithlaw33_sameAll (args : Array Value) (w : World) : (callFunc 21 args).run Tryd.prog w = .ok (.enter 21 args) w := Tryd.call21 args w
theorem call_pithref33_Items (args : Array Value) (w : World) : (callFunc 22 args).run Tryd.prog w = .ok (.enter 22 args) w := Tryd.call22 args w
theorem call_tar_Items (args : Array Value) (w : World) : (callFunc 23 args).run Tryd.prog w = .ok (.enter 23 args) w := Tryd.call23 args w
theorem call_pithlaw33_TarLists_c1 (args : Array Value) (w : World) : (callFunc 24 args).run Tryd.prog w = .ok (.enter 24 args) w := Tryd.call24 args w
theorem call_pithlaw33_tail (args : Array Value) (w : World) : (callFunc 25 args).run Tryd.prog w = .ok (.enter 25 args) w := Tryd.call25 args w
theorem call_tar_wrong (args : Array Value) (w : World) : (callFunc 26 args).run Tryd.prog w = .ok (.enter 26 args) w := Tryd.call26 args w
theorem call_tar_header (args : Array Value) (w : World) : (callFunc 27 args).run Tryd.prog w = .ok (.enter 27 args) w := Tryd.call27 args w
theorem call_tar_pad (args : Array Value) (w : World) : (callFunc 28 args).run Tryd.prog w = .ok (.enter 28 args) w := Tryd.call28 args w
theorem call_bytes_Equal (args : Array Value) (w : World) : (callFunc 29 args).run Tryd.prog w = .ok (.enter 29 args) w := Tryd.call29 args w
theorem call_tar_sum (args : Array Value) (w : World) : (callFunc 30 args).run Tryd.prog w = .ok (.enter 30 args) w := Tryd.call30 args w
theorem call_tar_fields (args : Array Value) (w : World) : (callFunc 31 args).run Tryd.prog w = .ok (.enter 31 args) w := Tryd.call31 args w
theorem call_tar_zero (args : Array Value) (w : World) : (callFunc 32 args).run Tryd.prog w = .ok (.enter 32 args) w := Tryd.call32 args w
theorem call_pithref33_Right (args : Array Value) (w : World) : (callFunc 33 args).run Tryd.prog w = .ok (.enter 33 args) w := Tryd.call33 args w
theorem call_pithref33_Header (args : Array Value) (w : World) : (callFunc 34 args).run Tryd.prog w = .ok (.enter 34 args) w := Tryd.call34 args w
theorem call_pithref33_zeros (args : Array Value) (w : World) : (callFunc 35 args).run Tryd.prog w = .ok (.enter 35 args) w := Tryd.call35 args w
theorem call_pithref33_gap (args : Array Value) (w : World) : (callFunc 36 args).run Tryd.prog w = .ok (.enter 36 args) w := Tryd.call36 args w
theorem call_pithref33_octal (args : Array Value) (w : World) : (callFunc 37 args).run Tryd.prog w = .ok (.enter 37 args) w := Tryd.call37 args w
theorem call_pithref33_sum (args : Array Value) (w : World) : (callFunc 38 args).run Tryd.prog w = .ok (.enter 38 args) w := Tryd.call38 args w
theorem call_pithref33_parsed (args : Array Value) (w : World) : (callFunc 39 args).run Tryd.prog w = .ok (.enter 39 args) w := Tryd.call39 args w
theorem call_pithref33_like (args : Array Value) (w : World) : (callFunc 40 args).run Tryd.prog w = .ok (.enter 40 args) w := Tryd.call40 args w
theorem call_bytes_Clone (args : Array Value) (w : World) : (callFunc 41 args).run Tryd.prog w = .ok (.enter 41 args) w := Tryd.call41 args w
theorem call_tar_Items_c1 (args : Array Value) (w : World) : (callFunc 42 args).run Tryd.prog w = .ok (.enter 42 args) w := Tryd.call42 args w
theorem call_tar_parted (args : Array Value) (w : World) : (callFunc 43 args).run Tryd.prog w = .ok (.enter 43 args) w := Tryd.call43 args w
theorem call_strings_IndexByte (args : Array Value) (w : World) : (callFunc 44 args).run Tryd.prog w = .ok (.enter 44 args) w := Tryd.call44 args w
theorem call_tar_octal (args : Array Value) (w : World) : (callFunc 45 args).run Tryd.prog w = .ok (.enter 45 args) w := Tryd.call45 args w
theorem call_tar_fields_c1 (args : Array Value) (w : World) : (callFunc 46 args).run Tryd.prog w = .ok (.enter 46 args) w := Tryd.call46 args w
theorem call_tar_fields_c2 (args : Array Value) (w : World) : (callFunc 47 args).run Tryd.prog w = .ok (.enter 47 args) w := Tryd.call47 args w
theorem call_tar_text (args : Array Value) (w : World) : (callFunc 48 args).run Tryd.prog w = .ok (.enter 48 args) w := Tryd.call48 args w
theorem call_tar_fields_c3 (args : Array Value) (w : World) : (callFunc 49 args).run Tryd.prog w = .ok (.enter 49 args) w := Tryd.call49 args w
theorem call_tar_fields_c4 (args : Array Value) (w : World) : (callFunc 50 args).run Tryd.prog w = .ok (.enter 50 args) w := Tryd.call50 args w
theorem call_tar_number (args : Array Value) (w : World) : (callFunc 51 args).run Tryd.prog w = .ok (.enter 51 args) w := Tryd.call51 args w
theorem call_tar_none (args : Array Value) (w : World) : (callFunc 52 args).run Tryd.prog w = .ok (.enter 52 args) w := Tryd.call52 args w
theorem call_tar_fields_c5 (args : Array Value) (w : World) : (callFunc 53 args).run Tryd.prog w = .ok (.enter 53 args) w := Tryd.call53 args w
theorem call_tar_fields_c6 (args : Array Value) (w : World) : (callFunc 54 args).run Tryd.prog w = .ok (.enter 54 args) w := Tryd.call54 args w
theorem call_tar_fields_c7 (args : Array Value) (w : World) : (callFunc 55 args).run Tryd.prog w = .ok (.enter 55 args) w := Tryd.call55 args w
theorem call_tar_fields_c8 (args : Array Value) (w : World) : (callFunc 56 args).run Tryd.prog w = .ok (.enter 56 args) w := Tryd.call56 args w
theorem call_tar_fields_c9 (args : Array Value) (w : World) : (callFunc 57 args).run Tryd.prog w = .ok (.enter 57 args) w := Tryd.call57 args w
theorem call_tar_fields_c10 (args : Array Value) (w : World) : (callFunc 58 args).run Tryd.prog w = .ok (.enter 58 args) w := Tryd.call58 args w
theorem call_tar_fields_c11 (args : Array Value) (w : World) : (callFunc 59 args).run Tryd.prog w = .ok (.enter 59 args) w := Tryd.call59 args w
theorem call_tar_fields_c12 (args : Array Value) (w : World) : (callFunc 60 args).run Tryd.prog w = .ok (.enter 60 args) w := Tryd.call60 args w
theorem call_tar_fields_c13 (args : Array Value) (w : World) : (callFunc 61 args).run Tryd.prog w = .ok (.enter 61 args) w := Tryd.call61 args w
theorem call_tar_fields_c14 (args : Array Value) (w : World) : (callFunc 62 args).run Tryd.prog w = .ok (.enter 62 args) w := Tryd.call62 args w
theorem call_tar_fields_c15 (args : Array Value) (w : World) : (callFunc 63 args).run Tryd.prog w = .ok (.enter 63 args) w := Tryd.call63 args w
theorem call_bytes_TrimLeft (args : Array Value) (w : World) : (callFunc 64 args).run Tryd.prog w = .ok (.enter 64 args) w := Tryd.call64 args w
theorem call_pithref33_Cut (args : Array Value) (w : World) : (callFunc 65 args).run Tryd.prog w = .ok (.enter 65 args) w := Tryd.call65 args w
theorem call_pithref33_has (args : Array Value) (w : World) : (callFunc 66 args).run Tryd.prog w = .ok (.enter 66 args) w := Tryd.call66 args w
theorem call_pithref33_filled (args : Array Value) (w : World) : (callFunc 67 args).run Tryd.prog w = .ok (.enter 67 args) w := Tryd.call67 args w
theorem call_pithref33_text (args : Array Value) (w : World) : (callFunc 68 args).run Tryd.prog w = .ok (.enter 68 args) w := Tryd.call68 args w
theorem call_pithref33_number (args : Array Value) (w : World) : (callFunc 69 args).run Tryd.prog w = .ok (.enter 69 args) w := Tryd.call69 args w
theorem call_internal_stringslite_IndexByte (args : Array Value) (w : World) : (callFunc 70 args).run Tryd.prog w = .ok (.enter 70 args) w := Tryd.call70 args w
theorem call_bytes_Cut (args : Array Value) (w : World) : (callFunc 71 args).run Tryd.prog w = .ok (.enter 71 args) w := Tryd.call71 args w
theorem call_bytes_trimLeftByte (args : Array Value) (w : World) : (callFunc 72 args).run Tryd.prog w = .ok (.enter 72 args) w := Tryd.call72 args w
theorem call_bytes_makeASCIISet (args : Array Value) (w : World) : (callFunc 73 args).run Tryd.prog w = .ok (.enter 73 args) w := Tryd.call73 args w
theorem call_bytes_trimLeftASCII (args : Array Value) (w : World) : (callFunc 74 args).run Tryd.prog w = .ok (.enter 74 args) w := Tryd.call74 args w
theorem call_bytes_trimLeftUnicode (args : Array Value) (w : World) : (callFunc 75 args).run Tryd.prog w = .ok (.enter 75 args) w := Tryd.call75 args w
theorem call_bytes_Index (args : Array Value) (w : World) : (callFunc 77 args).run Tryd.prog w = .ok (.enter 77 args) w := Tryd.call77 args w
theorem call_bytes_asciiSet_contains (args : Array Value) (w : World) : (callFunc 78 args).run Tryd.prog w = .ok (.enter 78 args) w := Tryd.call78 args w
theorem call_unicode_utf8_DecodeRune (args : Array Value) (w : World) : (callFunc 79 args).run Tryd.prog w = .ok (.enter 79 args) w := Tryd.call79 args w
theorem call_bytes_containsRune (args : Array Value) (w : World) : (callFunc 80 args).run Tryd.prog w = .ok (.enter 80 args) w := Tryd.call80 args w
theorem call_bytes_IndexByte (args : Array Value) (w : World) : (callFunc 81 args).run Tryd.prog w = .ok (.enter 81 args) w := Tryd.call81 args w
theorem call_unicode_utf8_decodeRuneSlow (args : Array Value) (w : World) : (callFunc 85 args).run Tryd.prog w = .ok (.enter 85 args) w := Tryd.call85 args w
theorem call_gosem_cut_vars (args : Array Value) (w : World) : (callFunc 108 args).run Tryd.prog w = .ok (.enter 108 args) w := Tryd.call108 args w
attribute [local irreducible] pN oCall oCallV
theorem pc_pithlaw33_TarTold {args : List Value} (h : Calls Tryd.prog 3 args.toArray w (retP K)) : pN Tryd.prog (oCall 3 args) w K := pN_callQ (f := 3) (fun a w => call_pithlaw33_TarTold a w) h
theorem pc_pithlaw33_TarExact {args : List Value} (h : Calls Tryd.prog 4 args.toArray w (retP K)) : pN Tryd.prog (oCall 4 args) w K := pN_callQ (f := 4) (fun a w => call_pithlaw33_TarExact a w) h
theorem pc_pithlaw33_TarBack {args : List Value} (h : Calls Tryd.prog 5 args.toArray w (retP K)) : pN Tryd.prog (oCall 5 args) w K := pN_callQ (f := 5) (fun a w => call_pithlaw33_TarBack a w) h
theorem pc_pithlaw33_TarSole {args : List Value} (h : Calls Tryd.prog 6 args.toArray w (retP K)) : pN Tryd.prog (oCall 6 args) w K := pN_callQ (f := 6) (fun a w => call_pithlaw33_TarSole a w) h
theorem pc_pithlaw33_TarLists {args : List Value} (h : Calls Tryd.prog 7 args.toArray w (retP K)) : pN Tryd.prog (oCall 7 args) w K := pN_callQ (f := 7) (fun a w => call_pithlaw33_TarLists a w) h
theorem pc_tar_Put {args : List Value} (h : Calls Tryd.prog 8 args.toArray w (retP K)) : pN Tryd.prog (oCall 8 args) w K := pN_callQ (f := 8) (fun a w => call_tar_Put a w) h
theorem pc_pithlaw33_num {args : List Value} (h : Calls Tryd.prog 9 args.toArray w (retP K)) : pN Tryd.prog (oCall 9 args) w K := pN_callQ (f := 9) (fun a w => call_pithlaw33_num a w) h
theorem pc_pithlaw33_known {args : List Value} (h : Calls Tryd.prog 10 args.toArray w (retP K)) : pN Tryd.prog (oCall 10 args) w K := pN_callQ (f := 10) (fun a w => call_pithlaw33_known a w) h
theorem pc_tar_Get {args : List Value} (h : Calls Tryd.prog 11 args.toArray w (retP K)) : pN Tryd.prog (oCall 11 args) w K := pN_callQ (f := 11) (fun a w => call_tar_Get a w) h
theorem pc_pithlaw33_same {args : List Value} (h : Calls Tryd.prog 12 args.toArray w (retP K)) : pN Tryd.prog (oCall 12 args) w K := pN_callQ (f := 12) (fun a w => call_pithlaw33_same a w) h
theorem pc_pithlaw33_room {args : List Value} (h : Calls Tryd.prog 13 args.toArray w (retP K)) : pN Tryd.prog (oCall 13 args) w K := pN_callQ (f := 13) (fun a w => call_pithlaw33_room a w) h
theorem pc_pithref33_Put {args : List Value} (h : Calls Tryd.prog 14 args.toArray w (retP K)) : pN Tryd.prog (oCall 14 args) w K := pN_callQ (f := 14) (fun a w => call_pithref33_Put a w) h
theorem pc_tar_Write {args : List Value} (h : Calls Tryd.prog 15 args.toArray w (retP K)) : pN Tryd.prog (oCall 15 args) w K := pN_callQ (f := 15) (fun a w => call_tar_Write a w) h
theorem pc_pithref33_Write {args : List Value} (h : Calls Tryd.prog 16 args.toArray w (retP K)) : pN Tryd.prog (oCall 16 args) w K := pN_callQ (f := 16) (fun a w => call_pithref33_Write a w) h
theorem pc_pithlaw33_Room_kept {args : List Value} (h : Calls Tryd.prog 17 args.toArray w (retP K)) : pN Tryd.prog (oCall 17 args) w K := pN_callQ (f := 17) (fun a w => call_pithlaw33_Room_kept a w) h
theorem pc_pithref33_Get {args : List Value} (h : Calls Tryd.prog 18 args.toArray w (retP K)) : pN Tryd.prog (oCall 18 args) w K := pN_callQ (f := 18) (fun a w => call_pithref33_Get a w) h
theorem pc_tar_Read {args : List Value} (h : Calls Tryd.prog 19 args.toArray w (retP K)) : pN Tryd.prog (oCall 19 args) w K := pN_callQ (f := 19) (fun a w => call_tar_Read a w) h
theorem pc_pithref33_Read {args : List Value} (h : Calls Tryd.prog 20 args.toArray w (retP K)) : pN Tryd.prog (oCall 20 args) w K := pN_callQ (f := 20) (fun a w => call_pithref33_Read a w) h
theorem pc_pithlaw33_sameAll {args : List Value} (h : Calls Tryd.prog 21 args.toArray w (retP K)) : pN Tryd.prog (oCall 21 args) w K := pN_callQ (f := 21) (fun a w => call_pithlaw33_sameAll a w) h
theorem pc_pithref33_Items {args : List Value} (h : Calls Tryd.prog 22 args.toArray w (retP K)) : pN Tryd.prog (oCall 22 args) w K := pN_callQ (f := 22) (fun a w => call_pithref33_Items a w) h
theorem pc_tar_Items {args : List Value} (h : Calls Tryd.prog 23 args.toArray w (retP K)) : pN Tryd.prog (oCall 23 args) w K := pN_callQ (f := 23) (fun a w => call_tar_Items a w) h
theorem pc_pithlaw33_TarLists_c1 {args : List Value} (h : Calls Tryd.prog 24 args.toArray w (retP K)) : pN Tryd.prog (oCall 24 args) w K := pN_callQ (f := 24) (fun a w => call_pithlaw33_TarLists_c1 a w) h
theorem pv_pithlaw33_TarLists_c1 {cap args : List Value} (h : Calls Tryd.prog 24 (args ++ cap).toArray w (retP K)) : pN Tryd.prog (oCallV (.func (.func 24) [].toArray cap.toArray) args) w K := pN_callV (f := 24) (fun a w => call_pithlaw33_TarLists_c1 a w) h
theorem pc_pithlaw33_tail {args : List Value} (h : Calls Tryd.prog 25 args.toArray w (retP K)) : pN Tryd.prog (oCall 25 args) w K := pN_callQ (f := 25) (fun a w => call_pithlaw33_tail a w) h
theorem pc_tar_wrong {args : List Value} (h : Calls Tryd.prog 26 args.toArray w (retP K)) : pN Tryd.prog (oCall 26 args) w K := pN_callQ (f := 26) (fun a w => call_tar_wrong a w) h
theorem pc_tar_header {args : List Value} (h : Calls Tryd.prog 27 args.toArray w (retP K)) : pN Tryd.prog (oCall 27 args) w K := pN_callQ (f := 27) (fun a w => call_tar_header a w) h
theorem pc_tar_pad {args : List Value} (h : Calls Tryd.prog 28 args.toArray w (retP K)) : pN Tryd.prog (oCall 28 args) w K := pN_callQ (f := 28) (fun a w => call_tar_pad a w) h
theorem pc_bytes_Equal {args : List Value} (h : Calls Tryd.prog 29 args.toArray w (retP K)) : pN Tryd.prog (oCall 29 args) w K := pN_callQ (f := 29) (fun a w => call_bytes_Equal a w) h
theorem pc_tar_sum {args : List Value} (h : Calls Tryd.prog 30 args.toArray w (retP K)) : pN Tryd.prog (oCall 30 args) w K := pN_callQ (f := 30) (fun a w => call_tar_sum a w) h
theorem pc_tar_fields {args : List Value} (h : Calls Tryd.prog 31 args.toArray w (retP K)) : pN Tryd.prog (oCall 31 args) w K := pN_callQ (f := 31) (fun a w => call_tar_fields a w) h
theorem pc_tar_zero {args : List Value} (h : Calls Tryd.prog 32 args.toArray w (retP K)) : pN Tryd.prog (oCall 32 args) w K := pN_callQ (f := 32) (fun a w => call_tar_zero a w) h
theorem pc_pithref33_Right {args : List Value} (h : Calls Tryd.prog 33 args.toArray w (retP K)) : pN Tryd.prog (oCall 33 args) w K := pN_callQ (f := 33) (fun a w => call_pithref33_Right a w) h
theorem pc_pithref33_Header {args : List Value} (h : Calls Tryd.prog 34 args.toArray w (retP K)) : pN Tryd.prog (oCall 34 args) w K := pN_callQ (f := 34) (fun a w => call_pithref33_Header a w) h
theorem pc_pithref33_zeros {args : List Value} (h : Calls Tryd.prog 35 args.toArray w (retP K)) : pN Tryd.prog (oCall 35 args) w K := pN_callQ (f := 35) (fun a w => call_pithref33_zeros a w) h
theorem pc_pithref33_gap {args : List Value} (h : Calls Tryd.prog 36 args.toArray w (retP K)) : pN Tryd.prog (oCall 36 args) w K := pN_callQ (f := 36) (fun a w => call_pithref33_gap a w) h
theorem pc_pithref33_octal {args : List Value} (h : Calls Tryd.prog 37 args.toArray w (retP K)) : pN Tryd.prog (oCall 37 args) w K := pN_callQ (f := 37) (fun a w => call_pithref33_octal a w) h
theorem pc_pithref33_sum {args : List Value} (h : Calls Tryd.prog 38 args.toArray w (retP K)) : pN Tryd.prog (oCall 38 args) w K := pN_callQ (f := 38) (fun a w => call_pithref33_sum a w) h
theorem pc_pithref33_parsed {args : List Value} (h : Calls Tryd.prog 39 args.toArray w (retP K)) : pN Tryd.prog (oCall 39 args) w K := pN_callQ (f := 39) (fun a w => call_pithref33_parsed a w) h
theorem pc_pithref33_like {args : List Value} (h : Calls Tryd.prog 40 args.toArray w (retP K)) : pN Tryd.prog (oCall 40 args) w K := pN_callQ (f := 40) (fun a w => call_pithref33_like a w) h
theorem pc_bytes_Clone {args : List Value} (h : Calls Tryd.prog 41 args.toArray w (retP K)) : pN Tryd.prog (oCall 41 args) w K := pN_callQ (f := 41) (fun a w => call_bytes_Clone a w) h
theorem pc_tar_Items_c1 {args : List Value} (h : Calls Tryd.prog 42 args.toArray w (retP K)) : pN Tryd.prog (oCall 42 args) w K := pN_callQ (f := 42) (fun a w => call_tar_Items_c1 a w) h
theorem pv_tar_Items_c1 {cap args : List Value} (h : Calls Tryd.prog 42 (args ++ cap).toArray w (retP K)) : pN Tryd.prog (oCallV (.func (.func 42) [].toArray cap.toArray) args) w K := pN_callV (f := 42) (fun a w => call_tar_Items_c1 a w) h
theorem pc_tar_parted {args : List Value} (h : Calls Tryd.prog 43 args.toArray w (retP K)) : pN Tryd.prog (oCall 43 args) w K := pN_callQ (f := 43) (fun a w => call_tar_parted a w) h
theorem pc_strings_IndexByte {args : List Value} (h : Calls Tryd.prog 44 args.toArray w (retP K)) : pN Tryd.prog (oCall 44 args) w K := pN_callQ (f := 44) (fun a w => call_strings_IndexByte a w) h
theorem pc_tar_octal {args : List Value} (h : Calls Tryd.prog 45 args.toArray w (retP K)) : pN Tryd.prog (oCall 45 args) w K := pN_callQ (f := 45) (fun a w => call_tar_octal a w) h
theorem pc_tar_fields_c1 {args : List Value} (h : Calls Tryd.prog 46 args.toArray w (retP K)) : pN Tryd.prog (oCall 46 args) w K := pN_callQ (f := 46) (fun a w => call_tar_fields_c1 a w) h
theorem pv_tar_fields_c1 {cap args : List Value} (h : Calls Tryd.prog 46 (args ++ cap).toArray w (retP K)) : pN Tryd.prog (oCallV (.func (.func 46) [].toArray cap.toArray) args) w K := pN_callV (f := 46) (fun a w => call_tar_fields_c1 a w) h
theorem pc_tar_fields_c2 {args : List Value} (h : Calls Tryd.prog 47 args.toArray w (retP K)) : pN Tryd.prog (oCall 47 args) w K := pN_callQ (f := 47) (fun a w => call_tar_fields_c2 a w) h
theorem pv_tar_fields_c2 {cap args : List Value} (h : Calls Tryd.prog 47 (args ++ cap).toArray w (retP K)) : pN Tryd.prog (oCallV (.func (.func 47) [].toArray cap.toArray) args) w K := pN_callV (f := 47) (fun a w => call_tar_fields_c2 a w) h
theorem pc_tar_text {args : List Value} (h : Calls Tryd.prog 48 args.toArray w (retP K)) : pN Tryd.prog (oCall 48 args) w K := pN_callQ (f := 48) (fun a w => call_tar_text a w) h
theorem pc_tar_fields_c3 {args : List Value} (h : Calls Tryd.prog 49 args.toArray w (retP K)) : pN Tryd.prog (oCall 49 args) w K := pN_callQ (f := 49) (fun a w => call_tar_fields_c3 a w) h
theorem pv_tar_fields_c3 {cap args : List Value} (h : Calls Tryd.prog 49 (args ++ cap).toArray w (retP K)) : pN Tryd.prog (oCallV (.func (.func 49) [].toArray cap.toArray) args) w K := pN_callV (f := 49) (fun a w => call_tar_fields_c3 a w) h
theorem pc_tar_fields_c4 {args : List Value} (h : Calls Tryd.prog 50 args.toArray w (retP K)) : pN Tryd.prog (oCall 50 args) w K := pN_callQ (f := 50) (fun a w => call_tar_fields_c4 a w) h
theorem pv_tar_fields_c4 {cap args : List Value} (h : Calls Tryd.prog 50 (args ++ cap).toArray w (retP K)) : pN Tryd.prog (oCallV (.func (.func 50) [].toArray cap.toArray) args) w K := pN_callV (f := 50) (fun a w => call_tar_fields_c4 a w) h
theorem pc_tar_number {args : List Value} (h : Calls Tryd.prog 51 args.toArray w (retP K)) : pN Tryd.prog (oCall 51 args) w K := pN_callQ (f := 51) (fun a w => call_tar_number a w) h
theorem pc_tar_none {args : List Value} (h : Calls Tryd.prog 52 args.toArray w (retP K)) : pN Tryd.prog (oCall 52 args) w K := pN_callQ (f := 52) (fun a w => call_tar_none a w) h
theorem pc_tar_fields_c5 {args : List Value} (h : Calls Tryd.prog 53 args.toArray w (retP K)) : pN Tryd.prog (oCall 53 args) w K := pN_callQ (f := 53) (fun a w => call_tar_fields_c5 a w) h
theorem pv_tar_fields_c5 {cap args : List Value} (h : Calls Tryd.prog 53 (args ++ cap).toArray w (retP K)) : pN Tryd.prog (oCallV (.func (.func 53) [].toArray cap.toArray) args) w K := pN_callV (f := 53) (fun a w => call_tar_fields_c5 a w) h
theorem pc_tar_fields_c6 {args : List Value} (h : Calls Tryd.prog 54 args.toArray w (retP K)) : pN Tryd.prog (oCall 54 args) w K := pN_callQ (f := 54) (fun a w => call_tar_fields_c6 a w) h
theorem pv_tar_fields_c6 {cap args : List Value} (h : Calls Tryd.prog 54 (args ++ cap).toArray w (retP K)) : pN Tryd.prog (oCallV (.func (.func 54) [].toArray cap.toArray) args) w K := pN_callV (f := 54) (fun a w => call_tar_fields_c6 a w) h
theorem pc_tar_fields_c7 {args : List Value} (h : Calls Tryd.prog 55 args.toArray w (retP K)) : pN Tryd.prog (oCall 55 args) w K := pN_callQ (f := 55) (fun a w => call_tar_fields_c7 a w) h
theorem pv_tar_fields_c7 {cap args : List Value} (h : Calls Tryd.prog 55 (args ++ cap).toArray w (retP K)) : pN Tryd.prog (oCallV (.func (.func 55) [].toArray cap.toArray) args) w K := pN_callV (f := 55) (fun a w => call_tar_fields_c7 a w) h
theorem pc_tar_fields_c8 {args : List Value} (h : Calls Tryd.prog 56 args.toArray w (retP K)) : pN Tryd.prog (oCall 56 args) w K := pN_callQ (f := 56) (fun a w => call_tar_fields_c8 a w) h
theorem pv_tar_fields_c8 {cap args : List Value} (h : Calls Tryd.prog 56 (args ++ cap).toArray w (retP K)) : pN Tryd.prog (oCallV (.func (.func 56) [].toArray cap.toArray) args) w K := pN_callV (f := 56) (fun a w => call_tar_fields_c8 a w) h
theorem pc_tar_fields_c9 {args : List Value} (h : Calls Tryd.prog 57 args.toArray w (retP K)) : pN Tryd.prog (oCall 57 args) w K := pN_callQ (f := 57) (fun a w => call_tar_fields_c9 a w) h
theorem pv_tar_fields_c9 {cap args : List Value} (h : Calls Tryd.prog 57 (args ++ cap).toArray w (retP K)) : pN Tryd.prog (oCallV (.func (.func 57) [].toArray cap.toArray) args) w K := pN_callV (f := 57) (fun a w => call_tar_fields_c9 a w) h
theorem pc_tar_fields_c10 {args : List Value} (h : Calls Tryd.prog 58 args.toArray w (retP K)) : pN Tryd.prog (oCall 58 args) w K := pN_callQ (f := 58) (fun a w => call_tar_fields_c10 a w) h
theorem pv_tar_fields_c10 {cap args : List Value} (h : Calls Tryd.prog 58 (args ++ cap).toArray w (retP K)) : pN Tryd.prog (oCallV (.func (.func 58) [].toArray cap.toArray) args) w K := pN_callV (f := 58) (fun a w => call_tar_fields_c10 a w) h
theorem pc_tar_fields_c11 {args : List Value} (h : Calls Tryd.prog 59 args.toArray w (retP K)) : pN Tryd.prog (oCall 59 args) w K := pN_callQ (f := 59) (fun a w => call_tar_fields_c11 a w) h
theorem pv_tar_fields_c11 {cap args : List Value} (h : Calls Tryd.prog 59 (args ++ cap).toArray w (retP K)) : pN Tryd.prog (oCallV (.func (.func 59) [].toArray cap.toArray) args) w K := pN_callV (f := 59) (fun a w => call_tar_fields_c11 a w) h
theorem pc_tar_fields_c12 {args : List Value} (h : Calls Tryd.prog 60 args.toArray w (retP K)) : pN Tryd.prog (oCall 60 args) w K := pN_callQ (f := 60) (fun a w => call_tar_fields_c12 a w) h
theorem pv_tar_fields_c12 {cap args : List Value} (h : Calls Tryd.prog 60 (args ++ cap).toArray w (retP K)) : pN Tryd.prog (oCallV (.func (.func 60) [].toArray cap.toArray) args) w K := pN_callV (f := 60) (fun a w => call_tar_fields_c12 a w) h
theorem pc_tar_fields_c13 {args : List Value} (h : Calls Tryd.prog 61 args.toArray w (retP K)) : pN Tryd.prog (oCall 61 args) w K := pN_callQ (f := 61) (fun a w => call_tar_fields_c13 a w) h
theorem pv_tar_fields_c13 {cap args : List Value} (h : Calls Tryd.prog 61 (args ++ cap).toArray w (retP K)) : pN Tryd.prog (oCallV (.func (.func 61) [].toArray cap.toArray) args) w K := pN_callV (f := 61) (fun a w => call_tar_fields_c13 a w) h
theorem pc_tar_fields_c14 {args : List Value} (h : Calls Tryd.prog 62 args.toArray w (retP K)) : pN Tryd.prog (oCall 62 args) w K := pN_callQ (f := 62) (fun a w => call_tar_fields_c14 a w) h
theorem pv_tar_fields_c14 {cap args : List Value} (h : Calls Tryd.prog 62 (args ++ cap).toArray w (retP K)) : pN Tryd.prog (oCallV (.func (.func 62) [].toArray cap.toArray) args) w K := pN_callV (f := 62) (fun a w => call_tar_fields_c14 a w) h
theorem pc_tar_fields_c15 {args : List Value} (h : Calls Tryd.prog 63 args.toArray w (retP K)) : pN Tryd.prog (oCall 63 args) w K := pN_callQ (f := 63) (fun a w => call_tar_fields_c15 a w) h
theorem pv_tar_fields_c15 {cap args : List Value} (h : Calls Tryd.prog 63 (args ++ cap).toArray w (retP K)) : pN Tryd.prog (oCallV (.func (.func 63) [].toArray cap.toArray) args) w K := pN_callV (f := 63) (fun a w => call_tar_fields_c15 a w) h
theorem pc_bytes_TrimLeft {args : List Value} (h : Calls Tryd.prog 64 args.toArray w (retP K)) : pN Tryd.prog (oCall 64 args) w K := pN_callQ (f := 64) (fun a w => call_bytes_TrimLeft a w) h
theorem pc_pithref33_Cut {args : List Value} (h : Calls Tryd.prog 65 args.toArray w (retP K)) : pN Tryd.prog (oCall 65 args) w K := pN_callQ (f := 65) (fun a w => call_pithref33_Cut a w) h
theorem pc_pithref33_has {args : List Value} (h : Calls Tryd.prog 66 args.toArray w (retP K)) : pN Tryd.prog (oCall 66 args) w K := pN_callQ (f := 66) (fun a w => call_pithref33_has a w) h
theorem pc_pithref33_filled {args : List Value} (h : Calls Tryd.prog 67 args.toArray w (retP K)) : pN Tryd.prog (oCall 67 args) w K := pN_callQ (f := 67) (fun a w => call_pithref33_filled a w) h
theorem pc_pithref33_text {args : List Value} (h : Calls Tryd.prog 68 args.toArray w (retP K)) : pN Tryd.prog (oCall 68 args) w K := pN_callQ (f := 68) (fun a w => call_pithref33_text a w) h
theorem pc_pithref33_number {args : List Value} (h : Calls Tryd.prog 69 args.toArray w (retP K)) : pN Tryd.prog (oCall 69 args) w K := pN_callQ (f := 69) (fun a w => call_pithref33_number a w) h
theorem pc_internal_stringslite_IndexByte {args : List Value} (h : Calls Tryd.prog 70 args.toArray w (retP K)) : pN Tryd.prog (oCall 70 args) w K := pN_callQ (f := 70) (fun a w => call_internal_stringslite_IndexByte a w) h
theorem pc_bytes_Cut {args : List Value} (h : Calls Tryd.prog 71 args.toArray w (retP K)) : pN Tryd.prog (oCall 71 args) w K := pN_callQ (f := 71) (fun a w => call_bytes_Cut a w) h
theorem pc_bytes_trimLeftByte {args : List Value} (h : Calls Tryd.prog 72 args.toArray w (retP K)) : pN Tryd.prog (oCall 72 args) w K := pN_callQ (f := 72) (fun a w => call_bytes_trimLeftByte a w) h
theorem pc_bytes_makeASCIISet {args : List Value} (h : Calls Tryd.prog 73 args.toArray w (retP K)) : pN Tryd.prog (oCall 73 args) w K := pN_callQ (f := 73) (fun a w => call_bytes_makeASCIISet a w) h
theorem pc_bytes_trimLeftASCII {args : List Value} (h : Calls Tryd.prog 74 args.toArray w (retP K)) : pN Tryd.prog (oCall 74 args) w K := pN_callQ (f := 74) (fun a w => call_bytes_trimLeftASCII a w) h
theorem pc_bytes_trimLeftUnicode {args : List Value} (h : Calls Tryd.prog 75 args.toArray w (retP K)) : pN Tryd.prog (oCall 75 args) w K := pN_callQ (f := 75) (fun a w => call_bytes_trimLeftUnicode a w) h
theorem pc_bytes_Index {args : List Value} (h : Calls Tryd.prog 77 args.toArray w (retP K)) : pN Tryd.prog (oCall 77 args) w K := pN_callQ (f := 77) (fun a w => call_bytes_Index a w) h
theorem pc_bytes_asciiSet_contains {args : List Value} (h : Calls Tryd.prog 78 args.toArray w (retP K)) : pN Tryd.prog (oCall 78 args) w K := pN_callQ (f := 78) (fun a w => call_bytes_asciiSet_contains a w) h
theorem pc_unicode_utf8_DecodeRune {args : List Value} (h : Calls Tryd.prog 79 args.toArray w (retP K)) : pN Tryd.prog (oCall 79 args) w K := pN_callQ (f := 79) (fun a w => call_unicode_utf8_DecodeRune a w) h
theorem pc_bytes_containsRune {args : List Value} (h : Calls Tryd.prog 80 args.toArray w (retP K)) : pN Tryd.prog (oCall 80 args) w K := pN_callQ (f := 80) (fun a w => call_bytes_containsRune a w) h
theorem pc_bytes_IndexByte {args : List Value} (h : Calls Tryd.prog 81 args.toArray w (retP K)) : pN Tryd.prog (oCall 81 args) w K := pN_callQ (f := 81) (fun a w => call_bytes_IndexByte a w) h
theorem pc_unicode_utf8_decodeRuneSlow {args : List Value} (h : Calls Tryd.prog 85 args.toArray w (retP K)) : pN Tryd.prog (oCall 85 args) w K := pN_callQ (f := 85) (fun a w => call_unicode_utf8_decodeRuneSlow a w) h
theorem pc_gosem_cut_vars {args : List Value} (h : Calls Tryd.prog 108 args.toArray w (retP K)) : pN Tryd.prog (oCall 108 args) w K := pN_callQ (f := 108) (fun a w => call_gosem_cut_vars a w) h
end

attribute [go_sem] pN_conv_int_uint8 pA_conv_int_uint8 pL_conv_int_uint8 pN_conv_uint8_int pA_conv_uint8_int pL_conv_uint8_int pN_conv_uint8_int32 pA_conv_uint8_int32 pL_conv_uint8_int32 pN_len_sl_uint8 pA_len_sl_uint8 pN_len_sl_api_Item pA_len_sl_api_Item pN_len_sl_int pA_len_sl_int pN_len_sl_sl_uint8 pA_len_sl_sl_uint8 pN_len_sl_tar_field pA_len_sl_tar_field pN_aidx_bytes_asciiSet pA_aidx_bytes_asciiSet pN_aidx_arr256_uint8 pA_aidx_arr256_uint8 pN_eqlb_bool pA_eqlb_bool pN_neqb_bool pA_neqb_bool pN_fld_api_Item_Name pA_fld_api_Item_Name pN_fld_api_Item_Link pA_fld_api_Item_Link pN_fld_api_Item_Kind pA_fld_api_Item_Kind pN_fld_api_Item_Mode pA_fld_api_Item_Mode pN_fld_api_Item_Time pA_fld_api_Item_Time pN_fld_api_Item_Data pA_fld_api_Item_Data pN_fld_tar_head_Item pA_fld_tar_head_Item pN_fld_tar_head_size pA_fld_tar_head_size pN_fld_tar_field_at pA_fld_tar_field_at pN_fld_tar_field_n pA_fld_tar_field_n pN_fld_tar_field_write pA_fld_tar_field_write pN_fld_tar_field_read pA_fld_tar_field_read pN_fld_pithlaw33_Room_L pA_fld_pithlaw33_Room_L pN_fld_pithlaw33_Room_Full pA_fld_pithlaw33_Room_Full pN_fld_unicode_utf8_acceptRange_lo pA_fld_unicode_utf8_acceptRange_lo pN_fld_unicode_utf8_acceptRange_hi pA_fld_unicode_utf8_acceptRange_hi

end Go.Proofs.YteeepkimnpabiaaDoor
