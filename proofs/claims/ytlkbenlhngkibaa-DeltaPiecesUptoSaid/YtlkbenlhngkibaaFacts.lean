/-
  Closed facts of the translation, under names. Printed by a program of mine (facts.py).
-/
import Derived.Test.YtlkbenlhngkibaaRows
import Derived.Test.YtlkbenlhngkibaaBytes
namespace Go.Proofs.Ytlkbenlhngkibaa
open Go

theorem mixed : Try.prog.follows .mixedOrders = true := by kernel_rfl
section
variable {w : World} {K : Value → World → Prop} {J : Value → Prop}

theorem un_int : Try.prog.underlying 3 = some (.int .i64) := Try.underlying3
theorem na_int (w : World) : (isAgg 3).run Try.prog w = .ok false w := Try.isAgg3 w
theorem sz_int (w : World) : (sizeOf 3).run Try.prog w = .ok 1 w := Try.sizeOf3 w
theorem zv_int (w : World) : (zeroValue 3).run Try.prog w = .ok (.int .i64 0) w := Try.zeroValue3 w
theorem un_bool : Try.prog.underlying 4 = some (.bool) := Try.underlying4
theorem na_bool (w : World) : (isAgg 4).run Try.prog w = .ok false w := Try.isAgg4 w
theorem sz_bool (w : World) : (sizeOf 4).run Try.prog w = .ok 1 w := Try.sizeOf4 w
theorem zv_bool (w : World) : (zeroValue 4).run Try.prog w = .ok (.bool false) w := Try.zeroValue4 w
theorem un_uint8 : Try.prog.underlying 5 = some (.int .u8) := Try.underlying5
theorem na_uint8 (w : World) : (isAgg 5).run Try.prog w = .ok false w := Try.isAgg5 w
theorem sz_uint8 (w : World) : (sizeOf 5).run Try.prog w = .ok 1 w := Try.sizeOf5 w
theorem zv_uint8 (w : World) : (zeroValue 5).run Try.prog w = .ok (.int .u8 0) w := Try.zeroValue5 w
theorem un_string : Try.prog.underlying 9 = some (.string) := Try.underlying9
theorem na_string (w : World) : (isAgg 9).run Try.prog w = .ok false w := Try.isAgg9 w
theorem sz_string (w : World) : (sizeOf 9).run Try.prog w = .ok 1 w := Try.sizeOf9 w
theorem zv_string (w : World) : (zeroValue 9).run Try.prog w = .ok (.string ⟨#[]⟩) w := Try.zeroValue9 w
theorem un_sl_pithlaw19_Piece : Try.prog.underlying 22 = some (.slice 34) := Try.underlying22
theorem na_sl_pithlaw19_Piece (w : World) : (isAgg 22).run Try.prog w = .ok false w := Try.isAgg22 w
theorem sz_sl_pithlaw19_Piece (w : World) : (sizeOf 22).run Try.prog w = .ok 1 w := Try.sizeOf22 w
theorem zv_sl_pithlaw19_Piece (w : World) : (zeroValue 22).run Try.prog w = .ok (.slice none 0 0) w := Try.zeroValue22 w
theorem un_sl_uint8 : Try.prog.underlying 29 = some (.slice 5) := Try.underlying29
theorem na_sl_uint8 (w : World) : (isAgg 29).run Try.prog w = .ok false w := Try.isAgg29 w
theorem sz_sl_uint8 (w : World) : (sizeOf 29).run Try.prog w = .ok 1 w := Try.sizeOf29 w
theorem zv_sl_uint8 (w : World) : (zeroValue 29).run Try.prog w = .ok (.slice none 0 0) w := Try.zeroValue29 w
theorem ag_pithref19_Filter (w : World) : (isAgg 31).run Try.prog w = .ok true w := Try.isAgg31 w
theorem sz_pithref19_Filter (w : World) : (sizeOf 31).run Try.prog w = .ok 3 w := Try.sizeOf31 w
theorem zv_pithref19_Filter (w : World) : (zeroValue 31).run Try.prog w = .ok (.agg #[(.int .i64 0), (.bool false), (.slice none 0 0)]) w := Try.zeroValue31 w
theorem un_sl_pithlaw19_Held : Try.prog.underlying 32 = some (.slice 40) := Try.underlying32
theorem na_sl_pithlaw19_Held (w : World) : (isAgg 32).run Try.prog w = .ok false w := Try.isAgg32 w
theorem sz_sl_pithlaw19_Held (w : World) : (sizeOf 32).run Try.prog w = .ok 1 w := Try.sizeOf32 w
theorem zv_sl_pithlaw19_Held (w : World) : (zeroValue 32).run Try.prog w = .ok (.slice none 0 0) w := Try.zeroValue32 w
theorem ag_pithlaw19_Piece (w : World) : (isAgg 34).run Try.prog w = .ok true w := Try.isAgg34 w
theorem sz_pithlaw19_Piece (w : World) : (sizeOf 34).run Try.prog w = .ok 2 w := Try.sizeOf34 w
theorem zv_pithlaw19_Piece (w : World) : (zeroValue 34).run Try.prog w = .ok (.agg #[(.bool false), (.slice none 0 0)]) w := Try.zeroValue34 w
theorem ag_pithlaw19_Held (w : World) : (isAgg 40).run Try.prog w = .ok true w := Try.isAgg40 w
theorem sz_pithlaw19_Held (w : World) : (sizeOf 40).run Try.prog w = .ok 5 w := Try.sizeOf40 w
theorem zv_pithlaw19_Held (w : World) : (zeroValue 40).run Try.prog w = .ok (.agg #[(.slice none 0 0), (.int .i64 0), (.int .u8 0), (.string ⟨#[]⟩), (.bool false)]) w := Try.zeroValue40 w
theorem un_sl_int : Try.prog.underlying 53 = some (.slice 3) := Try.underlying53
theorem na_sl_int (w : World) : (isAgg 53).run Try.prog w = .ok false w := Try.isAgg53 w
theorem sz_sl_int (w : World) : (sizeOf 53).run Try.prog w = .ok 1 w := Try.sizeOf53 w
theorem zv_sl_int (w : World) : (zeroValue 53).run Try.prog w = .ok (.slice none 0 0) w := Try.zeroValue53 w
theorem ag_delta_Filter (w : World) : (isAgg 57).run Try.prog w = .ok true w := Try.isAgg57 w
theorem sz_delta_Filter (w : World) : (sizeOf 57).run Try.prog w = .ok 259 w := Try.sizeOf57 w
theorem st_sl_pithlaw19_Piece : SlT Try.prog 22 34 (.agg #[(.bool false), (.slice none 0 0)]) 2 32 := ⟨Try.underlying22, info_parts (by kernel_rfl), rfl, by decide⟩
theorem st_sl_uint8 : SlT Try.prog 29 5 (.int .u8 0) 1 1 := ⟨Try.underlying29, info_parts (by kernel_rfl), rfl, by decide⟩
theorem st_sl_pithlaw19_Held : SlT Try.prog 32 40 (.agg #[(.slice none 0 0), (.int .i64 0), (.int .u8 0), (.string ⟨#[]⟩), (.bool false)]) 5 64 := ⟨Try.underlying32, info_parts (by kernel_rfl), rfl, by decide⟩
theorem st_sl_int : SlT Try.prog 53 3 (.int .i64 0) 1 8 := ⟨Try.underlying53, info_parts (by kernel_rfl), rfl, by decide⟩
theorem pN_conv_int_uint8 (k : IntKind) (n : Int) : pN Try.prog (oConv 3 5 (.int k n)) w K = K (.int .u8 (IntKind.wrap .u8 n)) w := pN_conv k n Try.underlying3 Try.underlying5
theorem pA_conv_int_uint8 (k : IntKind) (n : Int) : pA Try.prog (oConv 3 5 (.int k n)) J = J (.int .u8 (IntKind.wrap .u8 n)) := pA_conv k n Try.underlying3 Try.underlying5
theorem pL_conv_int_uint8 (k : IntKind) (n : Int) : pL Try.prog (oConv 3 5 (.int k n)) w J = J (.int .u8 (IntKind.wrap .u8 n)) := pL_conv k n Try.underlying3 Try.underlying5
theorem pN_conv_uint8_int (k : IntKind) (n : Int) : pN Try.prog (oConv 5 3 (.int k n)) w K = K (.int .i64 (IntKind.wrap .i64 n)) w := pN_conv k n Try.underlying5 Try.underlying3
theorem pA_conv_uint8_int (k : IntKind) (n : Int) : pA Try.prog (oConv 5 3 (.int k n)) J = J (.int .i64 (IntKind.wrap .i64 n)) := pA_conv k n Try.underlying5 Try.underlying3
theorem pL_conv_uint8_int (k : IntKind) (n : Int) : pL Try.prog (oConv 5 3 (.int k n)) w J = J (.int .i64 (IntKind.wrap .i64 n)) := pL_conv k n Try.underlying5 Try.underlying3
theorem run_str_sl_uint8 {v : Value} {n : Nat} {l : List UInt8} (hr : Rd w 1 v n (bvs l)) : (oConv 29 9 v).run Try.prog w = .ok (.value (.string ⟨l.toArray⟩)) w := run_str Try.underlying29 Try.underlying5 Try.underlying9 hr.len
theorem pN_str_sl_uint8 {v : Value} {n : Nat} {l : List UInt8} (hr : Rd w 1 v n (bvs l)) : pN Try.prog (oConv 29 9 v) w K = K (.string ⟨l.toArray⟩) w := by rw [pN_def, run_str_sl_uint8 hr, rN_value]
theorem pL_str_sl_uint8 {v : Value} {n : Nat} {l : List UInt8} (hr : Rd w 1 v n (bvs l)) : pL Try.prog (oConv 29 9 v) w J = J (.string ⟨l.toArray⟩) := by rw [pL_def, run_str_sl_uint8 hr, rL_value]
theorem pN_len_sl_pithlaw19_Piece (ty : TypeId) (ao : Option Addr) (n c : Nat) (cs : List Bool) : pN Try.prog (oBi .len #[22] ty cs [.slice ao n c]) w K = K (.int .i64 n) w := pN_len 22 ty ao n c cs Try.underlying22
theorem pA_len_sl_pithlaw19_Piece (ty : TypeId) (ao : Option Addr) (n c : Nat) (cs : List Bool) : pA Try.prog (oBi .len #[22] ty cs [.slice ao n c]) J = J (.int .i64 n) := pA_len 22 ty ao n c cs Try.underlying22
theorem pN_len_sl_pithlaw19_Piece_rd {v : Value} (ty : TypeId) {n s : Nat} {xs : List Value} (cs : List Bool) (hr : Rd w s v n xs) : pN Try.prog (oBi .len #[22] ty cs [v]) w K = K (.int .i64 n) w := by obtain ⟨_, ao, cap, rfl, _⟩ := hr; exact pN_len_sl_pithlaw19_Piece ty ao n cap cs
theorem pA_len_sl_pithlaw19_Piece_rd {v : Value} (ty : TypeId) {n s : Nat} {xs : List Value} (cs : List Bool) (hr : Rd w s v n xs) : pA Try.prog (oBi .len #[22] ty cs [v]) J = J (.int .i64 n) := by obtain ⟨_, ao, cap, rfl, _⟩ := hr; exact pA_len_sl_pithlaw19_Piece ty ao n cap cs
theorem pN_len_sl_uint8 (ty : TypeId) (ao : Option Addr) (n c : Nat) (cs : List Bool) : pN Try.prog (oBi .len #[29] ty cs [.slice ao n c]) w K = K (.int .i64 n) w := pN_len 29 ty ao n c cs Try.underlying29
theorem pA_len_sl_uint8 (ty : TypeId) (ao : Option Addr) (n c : Nat) (cs : List Bool) : pA Try.prog (oBi .len #[29] ty cs [.slice ao n c]) J = J (.int .i64 n) := pA_len 29 ty ao n c cs Try.underlying29
theorem pN_len_sl_uint8_rd {v : Value} (ty : TypeId) {n s : Nat} {xs : List Value} (cs : List Bool) (hr : Rd w s v n xs) : pN Try.prog (oBi .len #[29] ty cs [v]) w K = K (.int .i64 n) w := by obtain ⟨_, ao, cap, rfl, _⟩ := hr; exact pN_len_sl_uint8 ty ao n cap cs
theorem pA_len_sl_uint8_rd {v : Value} (ty : TypeId) {n s : Nat} {xs : List Value} (cs : List Bool) (hr : Rd w s v n xs) : pA Try.prog (oBi .len #[29] ty cs [v]) J = J (.int .i64 n) := by obtain ⟨_, ao, cap, rfl, _⟩ := hr; exact pA_len_sl_uint8 ty ao n cap cs
theorem pN_len_sl_pithlaw19_Held (ty : TypeId) (ao : Option Addr) (n c : Nat) (cs : List Bool) : pN Try.prog (oBi .len #[32] ty cs [.slice ao n c]) w K = K (.int .i64 n) w := pN_len 32 ty ao n c cs Try.underlying32
theorem pA_len_sl_pithlaw19_Held (ty : TypeId) (ao : Option Addr) (n c : Nat) (cs : List Bool) : pA Try.prog (oBi .len #[32] ty cs [.slice ao n c]) J = J (.int .i64 n) := pA_len 32 ty ao n c cs Try.underlying32
theorem pN_len_sl_pithlaw19_Held_rd {v : Value} (ty : TypeId) {n s : Nat} {xs : List Value} (cs : List Bool) (hr : Rd w s v n xs) : pN Try.prog (oBi .len #[32] ty cs [v]) w K = K (.int .i64 n) w := by obtain ⟨_, ao, cap, rfl, _⟩ := hr; exact pN_len_sl_pithlaw19_Held ty ao n cap cs
theorem pA_len_sl_pithlaw19_Held_rd {v : Value} (ty : TypeId) {n s : Nat} {xs : List Value} (cs : List Bool) (hr : Rd w s v n xs) : pA Try.prog (oBi .len #[32] ty cs [v]) J = J (.int .i64 n) := by obtain ⟨_, ao, cap, rfl, _⟩ := hr; exact pA_len_sl_pithlaw19_Held ty ao n cap cs
theorem pN_len_sl_int (ty : TypeId) (ao : Option Addr) (n c : Nat) (cs : List Bool) : pN Try.prog (oBi .len #[53] ty cs [.slice ao n c]) w K = K (.int .i64 n) w := pN_len 53 ty ao n c cs Try.underlying53
theorem pA_len_sl_int (ty : TypeId) (ao : Option Addr) (n c : Nat) (cs : List Bool) : pA Try.prog (oBi .len #[53] ty cs [.slice ao n c]) J = J (.int .i64 n) := pA_len 53 ty ao n c cs Try.underlying53
theorem pN_len_sl_int_rd {v : Value} (ty : TypeId) {n s : Nat} {xs : List Value} (cs : List Bool) (hr : Rd w s v n xs) : pN Try.prog (oBi .len #[53] ty cs [v]) w K = K (.int .i64 n) w := by obtain ⟨_, ao, cap, rfl, _⟩ := hr; exact pN_len_sl_int ty ao n cap cs
theorem pA_len_sl_int_rd {v : Value} (ty : TypeId) {n s : Nat} {xs : List Value} (cs : List Bool) (hr : Rd w s v n xs) : pA Try.prog (oBi .len #[53] ty cs [v]) J = J (.int .i64 n) := by obtain ⟨_, ao, cap, rfl, _⟩ := hr; exact pA_len_sl_int ty ao n cap cs
theorem pN_aidx_arr256_uint8 (b o : Nat) (k : IntKind) (i : Int) (h0 : 0 ≤ i) (h1 : i < 256) : pN Try.prog (oIdx 55 (.pointer (some ⟨b, o, none⟩)) (.int k i)) w K = K (.pointer (some ⟨b, o + i.toNat, none⟩)) w := pN_aidx Try.underlying55 Try.sizeOf5 b o k i h0 h1
theorem pA_aidx_arr256_uint8 (b o : Nat) (k : IntKind) (i : Int) (h0 : 0 ≤ i) (h1 : i < 256) : pA Try.prog (oIdx 55 (.pointer (some ⟨b, o, none⟩)) (.int k i)) J = J (.pointer (some ⟨b, o + i.toNat, none⟩)) := pA_aidx Try.underlying55 Try.sizeOf5 b o k i h0 h1
theorem pN_eql_p_delta_Filter (xo yo : Operand) (p : Option Addr) : pN Try.prog (oBin .eql 23 xo yo (.pointer p) (.pointer none)) w K = K (.bool (p.isNone)) w := pN_eql_ptr 23 xo yo p Try.underlying23
theorem pA_eql_p_delta_Filter (xo yo : Operand) (p : Option Addr) : pA Try.prog (oBin .eql 23 xo yo (.pointer p) (.pointer none)) J = J (.bool (p.isNone)) := pA_eql_ptr 23 xo yo p Try.underlying23
theorem pN_neq_p_delta_Filter (xo yo : Operand) (p : Option Addr) : pN Try.prog (oBin .neq 23 xo yo (.pointer p) (.pointer none)) w K = K (.bool (!p.isNone)) w := pN_neq_ptr 23 xo yo p Try.underlying23
theorem pA_neq_p_delta_Filter (xo yo : Operand) (p : Option Addr) : pA Try.prog (oBin .neq 23 xo yo (.pointer p) (.pointer none)) J = J (.bool (!p.isNone)) := pA_neq_ptr 23 xo yo p Try.underlying23
theorem pN_eqlb_bool (xo yo : Operand) (p q : Bool) : pN Try.prog (oBin .eql 4 xo yo (.bool p) (.bool q)) w K = K (.bool (p == q)) w := pN_eql_bool 4 xo yo p q Try.underlying4
theorem pA_eqlb_bool (xo yo : Operand) (p q : Bool) : pA Try.prog (oBin .eql 4 xo yo (.bool p) (.bool q)) J = J (.bool (p == q)) := pA_eql_bool 4 xo yo p q Try.underlying4
theorem pN_neqb_bool (xo yo : Operand) (p q : Bool) : pN Try.prog (oBin .neq 4 xo yo (.bool p) (.bool q)) w K = K (.bool (p != q)) w := pN_neq_bool 4 xo yo p q Try.underlying4
theorem pA_neqb_bool (xo yo : Operand) (p q : Bool) : pA Try.prog (oBin .neq 4 xo yo (.bool p) (.bool q)) J = J (.bool (p != q)) := pA_neq_bool 4 xo yo p q Try.underlying4
theorem run_fld_pithref19_Filter_Dist (b o : Nat) (w : World) : (oFld 31 (.pointer (some ⟨b, o, none⟩)) 0).run Try.prog w = .ok (.value (.pointer (some ⟨b, o, none⟩))) w := by kernel_rfl
theorem pN_fld_pithref19_Filter_Dist (b o : Nat) : pN Try.prog (oFld 31 (.pointer (some ⟨b, o, none⟩)) 0) w K = K (.pointer (some ⟨b, o, none⟩)) w := by rw [pN_def, run_fld_pithref19_Filter_Dist, rN_value]
theorem pA_fld_pithref19_Filter_Dist (b o : Nat) : pA Try.prog (oFld 31 (.pointer (some ⟨b, o, none⟩)) 0) J = J (.pointer (some ⟨b, o, none⟩)) := by rw [pA_def, funext (run_fld_pithref19_Filter_Dist b o), rA_value]
theorem run_fld_pithref19_Filter_Back (b o : Nat) (w : World) : (oFld 31 (.pointer (some ⟨b, o, none⟩)) 1).run Try.prog w = .ok (.value (.pointer (some ⟨b, o + 1, none⟩))) w := by kernel_rfl
theorem pN_fld_pithref19_Filter_Back (b o : Nat) : pN Try.prog (oFld 31 (.pointer (some ⟨b, o, none⟩)) 1) w K = K (.pointer (some ⟨b, o + 1, none⟩)) w := by rw [pN_def, run_fld_pithref19_Filter_Back, rN_value]
theorem pA_fld_pithref19_Filter_Back (b o : Nat) : pA Try.prog (oFld 31 (.pointer (some ⟨b, o, none⟩)) 1) J = J (.pointer (some ⟨b, o + 1, none⟩)) := by rw [pA_def, funext (run_fld_pithref19_Filter_Back b o), rA_value]
theorem run_fld_pithref19_Filter_All (b o : Nat) (w : World) : (oFld 31 (.pointer (some ⟨b, o, none⟩)) 2).run Try.prog w = .ok (.value (.pointer (some ⟨b, o + 2, none⟩))) w := by kernel_rfl
theorem pN_fld_pithref19_Filter_All (b o : Nat) : pN Try.prog (oFld 31 (.pointer (some ⟨b, o, none⟩)) 2) w K = K (.pointer (some ⟨b, o + 2, none⟩)) w := by rw [pN_def, run_fld_pithref19_Filter_All, rN_value]
theorem pA_fld_pithref19_Filter_All (b o : Nat) : pA Try.prog (oFld 31 (.pointer (some ⟨b, o, none⟩)) 2) J = J (.pointer (some ⟨b, o + 2, none⟩)) := by rw [pA_def, funext (run_fld_pithref19_Filter_All b o), rA_value]
theorem run_fld_pithlaw19_Piece_Two (b o : Nat) (w : World) : (oFld 34 (.pointer (some ⟨b, o, none⟩)) 0).run Try.prog w = .ok (.value (.pointer (some ⟨b, o, none⟩))) w := by kernel_rfl
theorem pN_fld_pithlaw19_Piece_Two (b o : Nat) : pN Try.prog (oFld 34 (.pointer (some ⟨b, o, none⟩)) 0) w K = K (.pointer (some ⟨b, o, none⟩)) w := by rw [pN_def, run_fld_pithlaw19_Piece_Two, rN_value]
theorem pA_fld_pithlaw19_Piece_Two (b o : Nat) : pA Try.prog (oFld 34 (.pointer (some ⟨b, o, none⟩)) 0) J = J (.pointer (some ⟨b, o, none⟩)) := by rw [pA_def, funext (run_fld_pithlaw19_Piece_Two b o), rA_value]
theorem run_fld_pithlaw19_Piece_B (b o : Nat) (w : World) : (oFld 34 (.pointer (some ⟨b, o, none⟩)) 1).run Try.prog w = .ok (.value (.pointer (some ⟨b, o + 1, none⟩))) w := by kernel_rfl
theorem pN_fld_pithlaw19_Piece_B (b o : Nat) : pN Try.prog (oFld 34 (.pointer (some ⟨b, o, none⟩)) 1) w K = K (.pointer (some ⟨b, o + 1, none⟩)) w := by rw [pN_def, run_fld_pithlaw19_Piece_B, rN_value]
theorem pA_fld_pithlaw19_Piece_B (b o : Nat) : pA Try.prog (oFld 34 (.pointer (some ⟨b, o, none⟩)) 1) J = J (.pointer (some ⟨b, o + 1, none⟩)) := by rw [pA_def, funext (run_fld_pithlaw19_Piece_B b o), rA_value]
theorem run_fld_pithlaw19_Held_B (b o : Nat) (w : World) : (oFld 40 (.pointer (some ⟨b, o, none⟩)) 0).run Try.prog w = .ok (.value (.pointer (some ⟨b, o, none⟩))) w := by kernel_rfl
theorem pN_fld_pithlaw19_Held_B (b o : Nat) : pN Try.prog (oFld 40 (.pointer (some ⟨b, o, none⟩)) 0) w K = K (.pointer (some ⟨b, o, none⟩)) w := by rw [pN_def, run_fld_pithlaw19_Held_B, rN_value]
theorem pA_fld_pithlaw19_Held_B (b o : Nat) : pA Try.prog (oFld 40 (.pointer (some ⟨b, o, none⟩)) 0) J = J (.pointer (some ⟨b, o, none⟩)) := by rw [pA_def, funext (run_fld_pithlaw19_Held_B b o), rA_value]
theorem run_fld_pithlaw19_Held_N (b o : Nat) (w : World) : (oFld 40 (.pointer (some ⟨b, o, none⟩)) 1).run Try.prog w = .ok (.value (.pointer (some ⟨b, o + 1, none⟩))) w := by kernel_rfl
theorem pN_fld_pithlaw19_Held_N (b o : Nat) : pN Try.prog (oFld 40 (.pointer (some ⟨b, o, none⟩)) 1) w K = K (.pointer (some ⟨b, o + 1, none⟩)) w := by rw [pN_def, run_fld_pithlaw19_Held_N, rN_value]
theorem pA_fld_pithlaw19_Held_N (b o : Nat) : pA Try.prog (oFld 40 (.pointer (some ⟨b, o, none⟩)) 1) J = J (.pointer (some ⟨b, o + 1, none⟩)) := by rw [pA_def, funext (run_fld_pithlaw19_Held_N b o), rA_value]
theorem run_fld_pithlaw19_Held_Mark (b o : Nat) (w : World) : (oFld 40 (.pointer (some ⟨b, o, none⟩)) 2).run Try.prog w = .ok (.value (.pointer (some ⟨b, o + 2, none⟩))) w := by kernel_rfl
theorem pN_fld_pithlaw19_Held_Mark (b o : Nat) : pN Try.prog (oFld 40 (.pointer (some ⟨b, o, none⟩)) 2) w K = K (.pointer (some ⟨b, o + 2, none⟩)) w := by rw [pN_def, run_fld_pithlaw19_Held_Mark, rN_value]
theorem pA_fld_pithlaw19_Held_Mark (b o : Nat) : pA Try.prog (oFld 40 (.pointer (some ⟨b, o, none⟩)) 2) J = J (.pointer (some ⟨b, o + 2, none⟩)) := by rw [pA_def, funext (run_fld_pithlaw19_Held_Mark b o), rA_value]
theorem run_fld_pithlaw19_Held_Want (b o : Nat) (w : World) : (oFld 40 (.pointer (some ⟨b, o, none⟩)) 3).run Try.prog w = .ok (.value (.pointer (some ⟨b, o + 3, none⟩))) w := by kernel_rfl
theorem pN_fld_pithlaw19_Held_Want (b o : Nat) : pN Try.prog (oFld 40 (.pointer (some ⟨b, o, none⟩)) 3) w K = K (.pointer (some ⟨b, o + 3, none⟩)) w := by rw [pN_def, run_fld_pithlaw19_Held_Want, rN_value]
theorem pA_fld_pithlaw19_Held_Want (b o : Nat) : pA Try.prog (oFld 40 (.pointer (some ⟨b, o, none⟩)) 3) J = J (.pointer (some ⟨b, o + 3, none⟩)) := by rw [pA_def, funext (run_fld_pithlaw19_Held_Want b o), rA_value]
theorem run_fld_pithlaw19_Held_Kept (b o : Nat) (w : World) : (oFld 40 (.pointer (some ⟨b, o, none⟩)) 4).run Try.prog w = .ok (.value (.pointer (some ⟨b, o + 4, none⟩))) w := by kernel_rfl
theorem pN_fld_pithlaw19_Held_Kept (b o : Nat) : pN Try.prog (oFld 40 (.pointer (some ⟨b, o, none⟩)) 4) w K = K (.pointer (some ⟨b, o + 4, none⟩)) w := by rw [pN_def, run_fld_pithlaw19_Held_Kept, rN_value]
theorem pA_fld_pithlaw19_Held_Kept (b o : Nat) : pA Try.prog (oFld 40 (.pointer (some ⟨b, o, none⟩)) 4) J = J (.pointer (some ⟨b, o + 4, none⟩)) := by rw [pA_def, funext (run_fld_pithlaw19_Held_Kept b o), rA_value]
theorem run_fld_delta_Filter_ring (b o : Nat) (w : World) : (oFld 57 (.pointer (some ⟨b, o, none⟩)) 0).run Try.prog w = .ok (.value (.pointer (some ⟨b, o, none⟩))) w := by kernel_rfl
theorem pN_fld_delta_Filter_ring (b o : Nat) : pN Try.prog (oFld 57 (.pointer (some ⟨b, o, none⟩)) 0) w K = K (.pointer (some ⟨b, o, none⟩)) w := by rw [pN_def, run_fld_delta_Filter_ring, rN_value]
theorem pA_fld_delta_Filter_ring (b o : Nat) : pA Try.prog (oFld 57 (.pointer (some ⟨b, o, none⟩)) 0) J = J (.pointer (some ⟨b, o, none⟩)) := by rw [pA_def, funext (run_fld_delta_Filter_ring b o), rA_value]
theorem run_fld_delta_Filter_at (b o : Nat) (w : World) : (oFld 57 (.pointer (some ⟨b, o, none⟩)) 1).run Try.prog w = .ok (.value (.pointer (some ⟨b, o + 256, none⟩))) w := by kernel_rfl
theorem pN_fld_delta_Filter_at (b o : Nat) : pN Try.prog (oFld 57 (.pointer (some ⟨b, o, none⟩)) 1) w K = K (.pointer (some ⟨b, o + 256, none⟩)) w := by rw [pN_def, run_fld_delta_Filter_at, rN_value]
theorem pA_fld_delta_Filter_at (b o : Nat) : pA Try.prog (oFld 57 (.pointer (some ⟨b, o, none⟩)) 1) J = J (.pointer (some ⟨b, o + 256, none⟩)) := by rw [pA_def, funext (run_fld_delta_Filter_at b o), rA_value]
theorem run_fld_delta_Filter_dist (b o : Nat) (w : World) : (oFld 57 (.pointer (some ⟨b, o, none⟩)) 2).run Try.prog w = .ok (.value (.pointer (some ⟨b, o + 257, none⟩))) w := by kernel_rfl
theorem pN_fld_delta_Filter_dist (b o : Nat) : pN Try.prog (oFld 57 (.pointer (some ⟨b, o, none⟩)) 2) w K = K (.pointer (some ⟨b, o + 257, none⟩)) w := by rw [pN_def, run_fld_delta_Filter_dist, rN_value]
theorem pA_fld_delta_Filter_dist (b o : Nat) : pA Try.prog (oFld 57 (.pointer (some ⟨b, o, none⟩)) 2) J = J (.pointer (some ⟨b, o + 257, none⟩)) := by rw [pA_def, funext (run_fld_delta_Filter_dist b o), rA_value]
theorem run_fld_delta_Filter_back (b o : Nat) (w : World) : (oFld 57 (.pointer (some ⟨b, o, none⟩)) 3).run Try.prog w = .ok (.value (.pointer (some ⟨b, o + 258, none⟩))) w := by kernel_rfl
theorem pN_fld_delta_Filter_back (b o : Nat) : pN Try.prog (oFld 57 (.pointer (some ⟨b, o, none⟩)) 3) w K = K (.pointer (some ⟨b, o + 258, none⟩)) w := by rw [pN_def, run_fld_delta_Filter_back, rN_value]
theorem pA_fld_delta_Filter_back (b o : Nat) : pA Try.prog (oFld 57 (.pointer (some ⟨b, o, none⟩)) 3) J = J (.pointer (some ⟨b, o + 258, none⟩)) := by rw [pA_def, funext (run_fld_delta_Filter_back b o), rA_value]
theorem call_pithlaw19_DeltaPieces (args : Array Value) (w : World) : (callFunc 3 args).run Try.prog w = .ok (.enter 3 args) w := Try.call3 args w
theorem call_pithlaw19_DeltaWhole (args : Array Value) (w : World) : (callFunc 4 args).run Try.prog w = .ok (.enter 4 args) w := Try.call4 args w
theorem call_pithlaw19_DeltaBack (args : Array Value) (w : World) : (callFunc 5 args).run Try.prog w = .ok (.enter 5 args) w := Try.call5 args w
theorem call_pithlaw19_DeltaOne (args : Array Value) (w : World) : (callFunc 6 args).run Try.prog w = .ok (.enter 6 args) w := Try.call6 args w
theorem call_pithlaw19_DeltaRows (args : Array Value) (w : World) : (callFunc 7 args).run Try.prog w = .ok (.enter 7 args) w := Try.call7 args w
theorem call_pithlaw19_DeltaCuts (args : Array Value) (w : World) : (callFunc 8 args).run Try.prog w = .ok (.enter 8 args) w := Try.call8 args w
theorem call_delta_New (args : Array Value) (w : World) : (callFunc 9 args).run Try.prog w = .ok (.enter 9 args) w := Try.call9 args w
theorem call_pithref19_Good (args : Array Value) (w : World) : (callFunc 10 args).run Try.prog w = .ok (.enter 10 args) w := Try.call10 args w
theorem call_pithlaw19_lent (args : Array Value) (w : World) : (callFunc 11 args).run Try.prog w = .ok (.enter 11 args) w := Try.call11 args w
theorem call_delta_Filter_Next (args : Array Value) (w : World) : (callFunc 12 args).run Try.prog w = .ok (.enter 12 args) w := Try.call12 args w
theorem call_pithref19_Filter_Next (args : Array Value) (w : World) : (callFunc 13 args).run Try.prog w = .ok (.enter 13 args) w := Try.call13 args w
theorem call_pithlaw19_kept (args : Array Value) (w : World) : (callFunc 14 args).run Try.prog w = .ok (.enter 14 args) w := Try.call14 args w
theorem call_pithlaw19_hold (args : Array Value) (w : World) : (callFunc 15 args).run Try.prog w = .ok (.enter 15 args) w := Try.call15 args w
theorem call_pithlaw19_held (args : Array Value) (w : World) : (callFunc 16 args).run Try.prog w = .ok (.enter 16 args) w := Try.call16 args w
theorem call_delta_Encode (args : Array Value) (w : World) : (callFunc 17 args).run Try.prog w = .ok (.enter 17 args) w := Try.call17 args w
theorem call_delta_Decode (args : Array Value) (w : World) : (callFunc 18 args).run Try.prog w = .ok (.enter 18 args) w := Try.call18 args w
theorem call_pithref19_Code (args : Array Value) (w : World) : (callFunc 19 args).run Try.prog w = .ok (.enter 19 args) w := Try.call19 args w
theorem call_pithlaw19_anew (args : Array Value) (w : World) : (callFunc 20 args).run Try.prog w = .ok (.enter 20 args) w := Try.call20 args w
theorem call_pithlaw19_distance (args : Array Value) (w : World) : (callFunc 21 args).run Try.prog w = .ok (.enter 21 args) w := Try.call21 args w
theorem call_pithlaw19_both (args : Array Value) (w : World) : (callFunc 22 args).run Try.prog w = .ok (.enter 22 args) w := Try.call22 args w
theorem call_pithlaw19_Held_written (args : Array Value) (w : World) : (callFunc 23 args).run Try.prog w = .ok (.enter 23 args) w := Try.call23 args w
theorem call_pithlaw19_Held_grown (args : Array Value) (w : World) : (callFunc 24 args).run Try.prog w = .ok (.enter 24 args) w := Try.call24 args w
theorem call_delta_whole (args : Array Value) (w : World) : (callFunc 25 args).run Try.prog w = .ok (.enter 25 args) w := Try.call25 args w
theorem call_pithref19_Sums (args : Array Value) (w : World) : (callFunc 26 args).run Try.prog w = .ok (.enter 26 args) w := Try.call26 args w
theorem call_pithref19_Differences (args : Array Value) (w : World) : (callFunc 27 args).run Try.prog w = .ok (.enter 27 args) w := Try.call27 args w
theorem call_pithref19_at (args : Array Value) (w : World) : (callFunc 28 args).run Try.prog w = .ok (.enter 28 args) w := Try.call28 args w
end

attribute [go_sem] pN_conv_int_uint8 pA_conv_int_uint8 pL_conv_int_uint8 pN_conv_uint8_int pA_conv_uint8_int pL_conv_uint8_int pN_len_sl_pithlaw19_Piece pA_len_sl_pithlaw19_Piece pN_len_sl_uint8 pA_len_sl_uint8 pN_len_sl_pithlaw19_Held pA_len_sl_pithlaw19_Held pN_len_sl_int pA_len_sl_int pN_aidx_arr256_uint8 pA_aidx_arr256_uint8 pN_eql_p_delta_Filter pA_eql_p_delta_Filter pN_neq_p_delta_Filter pA_neq_p_delta_Filter pN_eqlb_bool pA_eqlb_bool pN_neqb_bool pA_neqb_bool pN_fld_pithref19_Filter_Dist pA_fld_pithref19_Filter_Dist pN_fld_pithref19_Filter_Back pA_fld_pithref19_Filter_Back pN_fld_pithref19_Filter_All pA_fld_pithref19_Filter_All pN_fld_pithlaw19_Piece_Two pA_fld_pithlaw19_Piece_Two pN_fld_pithlaw19_Piece_B pA_fld_pithlaw19_Piece_B pN_fld_pithlaw19_Held_B pA_fld_pithlaw19_Held_B pN_fld_pithlaw19_Held_N pA_fld_pithlaw19_Held_N pN_fld_pithlaw19_Held_Mark pA_fld_pithlaw19_Held_Mark pN_fld_pithlaw19_Held_Want pA_fld_pithlaw19_Held_Want pN_fld_pithlaw19_Held_Kept pA_fld_pithlaw19_Held_Kept pN_fld_delta_Filter_ring pA_fld_delta_Filter_ring pN_fld_delta_Filter_at pA_fld_delta_Filter_at pN_fld_delta_Filter_dist pA_fld_delta_Filter_dist pN_fld_delta_Filter_back pA_fld_delta_Filter_back

end Go.Proofs.Ytlkbenlhngkibaa
