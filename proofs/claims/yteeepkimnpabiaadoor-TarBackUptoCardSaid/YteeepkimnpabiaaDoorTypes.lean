/-
  The seat's types: instances, codecs, how arguments read. Printed by a program of mine (types.py).
-/
import Derived.Test.YteeepkimnpabiaaDoorFacts
import Derived.Test.YteeepkimnpabiaaDoorOpen
namespace Go.Proofs.YteeepkimnpabiaaDoor
open Go Go.RowKit Go.ChangeShapes
set_option linter.unusedSimpArgs false
set_option linter.unnecessarySimpa false
set_option linter.unusedSectionVars false
set_option linter.unusedVariables false

instance sc_3 : Sc Tryd.prog 3 := ⟨Tryd.isAgg3, Tryd.sizeOf3⟩
instance sc_4 : Sc Tryd.prog 4 := ⟨Tryd.isAgg4, Tryd.sizeOf4⟩
instance sc_5 : Sc Tryd.prog 5 := ⟨Tryd.isAgg5, Tryd.sizeOf5⟩
instance sc_9 : Sc Tryd.prog 9 := ⟨Tryd.isAgg9, Tryd.sizeOf9⟩
instance sc_21 : Sc Tryd.prog 21 := ⟨Tryd.isAgg21, Tryd.sizeOf21⟩
instance sc_22 : Sc Tryd.prog 22 := ⟨Tryd.isAgg22, Tryd.sizeOf22⟩
instance ag_24 : Ag Tryd.prog 24 6 := ⟨Tryd.isAgg24, Tryd.sizeOf24⟩
instance sc_25 : Sc Tryd.prog 25 := ⟨Tryd.isAgg25, Tryd.sizeOf25⟩
instance sc_34 : Sc Tryd.prog 34 := ⟨Tryd.isAgg34, Tryd.sizeOf34⟩
instance sc_35 : Sc Tryd.prog 35 := ⟨Tryd.isAgg35, Tryd.sizeOf35⟩
instance sc_51 : Sc Tryd.prog 51 := ⟨Tryd.isAgg51, Tryd.sizeOf51⟩
instance sc_54 : Sc Tryd.prog 54 := ⟨Tryd.isAgg54, Tryd.sizeOf54⟩
instance sc_57 : Sc Tryd.prog 57 := ⟨Tryd.isAgg57, Tryd.sizeOf57⟩
instance sc_58 : Sc Tryd.prog 58 := ⟨Tryd.isAgg58, Tryd.sizeOf58⟩
instance sc_59 : Sc Tryd.prog 59 := ⟨Tryd.isAgg59, Tryd.sizeOf59⟩
instance sc_63 : Sc Tryd.prog 63 := ⟨Tryd.isAgg63, Tryd.sizeOf63⟩
instance ag_65 : Ag Tryd.prog 65 7 := ⟨Tryd.isAgg65, Tryd.sizeOf65⟩
instance sc_69 : Sc Tryd.prog 69 := ⟨Tryd.isAgg69, Tryd.sizeOf69⟩
instance sc_71 : Sc Tryd.prog 71 := ⟨Tryd.isAgg71, Tryd.sizeOf71⟩
instance ag_73 : Ag Tryd.prog 73 4 := ⟨Tryd.isAgg73, Tryd.sizeOf73⟩
instance ag_75 : Ag Tryd.prog 75 2 := ⟨Tryd.isAgg75, Tryd.sizeOf75⟩
instance sc_84 : Sc Tryd.prog 84 := ⟨Tryd.isAgg84, Tryd.sizeOf84⟩
instance ag_100 : Ag Tryd.prog 100 256 := ⟨Tryd.isAgg100, Tryd.sizeOf100⟩
instance sc_104 : Sc Tryd.prog 104 := ⟨Tryd.isAgg104, Tryd.sizeOf104⟩
instance ag_114 : Ag Tryd.prog 114 256 := ⟨Tryd.isAgg114, Tryd.sizeOf114⟩
instance ag_116 : Ag Tryd.prog 116 2 := ⟨Tryd.isAgg116, Tryd.sizeOf116⟩
instance ag_117 : Ag Tryd.prog 117 32 := ⟨Tryd.isAgg117, Tryd.sizeOf117⟩
instance zv_3 : Zv Tryd.prog 3 [(.int .i64 0)] := ⟨_, Tryd.zeroValue3, rfl⟩
instance zv_4 : Zv Tryd.prog 4 [(.bool false)] := ⟨_, Tryd.zeroValue4, rfl⟩
instance zv_5 : Zv Tryd.prog 5 [(bv 0)] := ⟨_, Tryd.zeroValue5, rfl⟩
instance zv_9 : Zv Tryd.prog 9 [(.string ⟨#[]⟩)] := ⟨_, Tryd.zeroValue9, rfl⟩
instance zv_21 : Zv Tryd.prog 21 [(.int .i32 0)] := ⟨_, Tryd.zeroValue21, rfl⟩
instance zv_22 : Zv Tryd.prog 22 [(.slice none 0 0)] := ⟨_, Tryd.zeroValue22, rfl⟩
instance zv_24 : Zv Tryd.prog 24 [(.string ⟨#[]⟩), (.string ⟨#[]⟩), (.int .i64 0), (.int .i64 0), (.int .i64 0), (.slice none 0 0)] := ⟨_, Tryd.zeroValue24, rfl⟩
instance zv_25 : Zv Tryd.prog 25 [(.int .i64 0)] := ⟨_, Tryd.zeroValue25, rfl⟩
instance zv_34 : Zv Tryd.prog 34 [(.slice none 0 0)] := ⟨_, Tryd.zeroValue34, rfl⟩
instance zv_35 : Zv Tryd.prog 35 [(.pointer none)] := ⟨_, Tryd.zeroValue35, rfl⟩
instance zv_51 : Zv Tryd.prog 51 [.nilFunc] := ⟨_, Tryd.zeroValue51, rfl⟩
instance zv_54 : Zv Tryd.prog 54 [(.slice none 0 0)] := ⟨_, Tryd.zeroValue54, rfl⟩
instance zv_57 : Zv Tryd.prog 57 [(.slice none 0 0)] := ⟨_, Tryd.zeroValue57, rfl⟩
instance zv_58 : Zv Tryd.prog 58 [(.slice none 0 0)] := ⟨_, Tryd.zeroValue58, rfl⟩
instance zv_59 : Zv Tryd.prog 59 [.nilFunc] := ⟨_, Tryd.zeroValue59, rfl⟩
instance zv_63 : Zv Tryd.prog 63 [(.pointer none)] := ⟨_, Tryd.zeroValue63, rfl⟩
instance zv_65 : Zv Tryd.prog 65 [(.string ⟨#[]⟩), (.string ⟨#[]⟩), (.int .i64 0), (.int .i64 0), (.int .i64 0), (.slice none 0 0), (.int .i64 0)] := ⟨_, Tryd.zeroValue65, rfl⟩
instance zv_69 : Zv Tryd.prog 69 [(.slice none 0 0)] := ⟨_, Tryd.zeroValue69, rfl⟩
instance zv_71 : Zv Tryd.prog 71 [.nilFunc] := ⟨_, Tryd.zeroValue71, rfl⟩
instance zv_73 : Zv Tryd.prog 73 [(.int .i64 0), (.int .i64 0), .nilFunc, .nilFunc] := ⟨_, Tryd.zeroValue73, rfl⟩
instance zv_75 : Zv Tryd.prog 75 [(.slice none 0 0), (.slice none 0 0)] := ⟨_, Tryd.zeroValue75, rfl⟩
instance zv_84 : Zv Tryd.prog 84 [.nilFunc] := ⟨_, Tryd.zeroValue84, rfl⟩
instance zv_104 : Zv Tryd.prog 104 [(.pointer none)] := ⟨_, Tryd.zeroValue104, rfl⟩
instance zv_116 : Zv Tryd.prog 116 [(bv 0), (bv 0)] := ⟨_, Tryd.zeroValue116, rfl⟩
instance zv_117 : Zv Tryd.prog 117 [(bv 0), (bv 0), (bv 0), (bv 0), (bv 0), (bv 0), (bv 0), (bv 0), (bv 0), (bv 0), (bv 0), (bv 0), (bv 0), (bv 0), (bv 0), (bv 0), (bv 0), (bv 0), (bv 0), (bv 0), (bv 0), (bv 0), (bv 0), (bv 0), (bv 0), (bv 0), (bv 0), (bv 0), (bv 0), (bv 0), (bv 0), (bv 0)] := ⟨_, Tryd.zeroValue117, rfl⟩
structure T_api_Item where
  Name : List UInt8
  Link : List UInt8
  Kind : Int
  Mode : Int
  Time : Int
  Data : (Sl × List UInt8)
def T_api_Item.zero : T_api_Item := ⟨[], [], 0, 0, 0, (⟨none, 0⟩, [])⟩
def T_api_Item.enc (b : T_api_Item) : List Value := [.string ⟨List.toArray b.Name⟩, .string ⟨List.toArray b.Link⟩, .int .i64 b.Kind, .int .i64 b.Mode, .int .i64 b.Time, .slice b.Data.1.a b.Data.2.length b.Data.1.c]
def cd_int : Cd Int := { e := 3, size := 1, bytes := 8, zero := 0, enc := fun b => [.int .i64 b], len := fun _ => rfl, one := by intro b u hu; simp only [List.mem_cons, List.not_mem_nil, or_false] at hu; subst hu; rfl }
instance bt_int : Bt cd_int 8 := ⟨rfl⟩
def cd_uint8 : Cd UInt8 := { e := 5, size := 1, bytes := 1, zero := 0, enc := fun b => [bv b], len := fun _ => rfl, one := by intro b u hu; simp only [List.mem_cons, List.not_mem_nil, or_false] at hu; subst hu; rfl }
instance bt_uint8 : Bt cd_uint8 1 := ⟨rfl⟩
def cd_string : Cd (List UInt8) := { e := 9, size := 1, bytes := 16, zero := [], enc := fun b => [.string ⟨List.toArray b⟩], len := fun _ => rfl, one := by intro b u hu; simp only [List.mem_cons, List.not_mem_nil, or_false] at hu; subst hu; rfl }
instance bt_string : Bt cd_string 16 := ⟨rfl⟩
def cd_sl_uint8 : Cd (Sl × List UInt8) := { e := 22, size := 1, bytes := 24, zero := (⟨none, 0⟩, []), enc := fun b => [.slice b.1.a b.2.length b.1.c], len := fun _ => rfl, one := by intro b u hu; simp only [List.mem_cons, List.not_mem_nil, or_false] at hu; subst hu; rfl }
instance bt_sl_uint8 : Bt cd_sl_uint8 24 := ⟨rfl⟩
def cd_api_Item : Cd T_api_Item := { e := 24, size := 6, bytes := 80, zero := T_api_Item.zero, enc := T_api_Item.enc, len := fun _ => rfl, one := by intro b u hu; simp only [T_api_Item.enc, List.mem_cons, List.mem_append, List.not_mem_nil, or_false] at hu; rcases hu with rfl|rfl|rfl|rfl|rfl|rfl <;> rfl }
instance bt_api_Item : Bt cd_api_Item 80 := ⟨rfl⟩
theorem flat_uint8 (l : List UInt8) : cd_uint8.flat l = bvs l := cd_uint8.flat_single bv (fun _ => rfl) l
instance row_22 : Row Tryd.prog 22 UInt8 cd_uint8 := ⟨⟨(.int .u8 0), ⟨Tryd.underlying22, info_parts (by kernel_rfl), rfl, by decide⟩, rfl⟩, by decide⟩
instance row_34 : Row Tryd.prog 34 T_api_Item cd_api_Item := ⟨⟨(.agg #[(.string ⟨#[]⟩), (.string ⟨#[]⟩), (.int .i64 0), (.int .i64 0), (.int .i64 0), (.slice none 0 0)]), ⟨Tryd.underlying34, info_parts (by kernel_rfl), rfl, by decide⟩, rfl⟩, by decide⟩
instance row_54 : Row Tryd.prog 54 Int cd_int := ⟨⟨(.int .i64 0), ⟨Tryd.underlying54, info_parts (by kernel_rfl), rfl, by decide⟩, rfl⟩, by decide⟩
instance row_57 : Row Tryd.prog 57 (Sl × List UInt8) cd_sl_uint8 := ⟨⟨(.slice none 0 0), ⟨Tryd.underlying57, info_parts (by kernel_rfl), rfl, by decide⟩, rfl⟩, by decide⟩
instance row_58 : Row Tryd.prog 58 (List UInt8) cd_string := ⟨⟨(.string ⟨#[]⟩), ⟨Tryd.underlying58, info_parts (by kernel_rfl), rfl, by decide⟩, rfl⟩, by decide⟩
section
variable [Pan] {w : World} {K : Value → World → Prop} {J : Value → Prop}
instance fa_24_0 : FA Tryd.prog 24 0 0 := ⟨fun a w => by kernel_rfl⟩
instance fa_24_1 : FA Tryd.prog 24 1 1 := ⟨fun a w => by kernel_rfl⟩
instance fa_24_2 : FA Tryd.prog 24 2 2 := ⟨fun a w => by kernel_rfl⟩
instance fa_24_3 : FA Tryd.prog 24 3 3 := ⟨fun a w => by kernel_rfl⟩
instance fa_24_4 : FA Tryd.prog 24 4 4 := ⟨fun a w => by kernel_rfl⟩
instance fa_24_5 : FA Tryd.prog 24 5 5 := ⟨fun a w => by kernel_rfl⟩
instance fa_65_0 : FA Tryd.prog 65 0 0 := ⟨fun a w => by kernel_rfl⟩
instance fa_65_1 : FA Tryd.prog 65 1 6 := ⟨fun a w => by kernel_rfl⟩
instance fa_73_0 : FA Tryd.prog 73 0 0 := ⟨fun a w => by kernel_rfl⟩
instance fa_73_1 : FA Tryd.prog 73 1 1 := ⟨fun a w => by kernel_rfl⟩
instance fa_73_2 : FA Tryd.prog 73 2 2 := ⟨fun a w => by kernel_rfl⟩
instance fa_73_3 : FA Tryd.prog 73 3 3 := ⟨fun a w => by kernel_rfl⟩
instance fa_75_0 : FA Tryd.prog 75 0 0 := ⟨fun a w => by kernel_rfl⟩
instance fa_75_1 : FA Tryd.prog 75 1 1 := ⟨fun a w => by kernel_rfl⟩
instance fa_116_0 : FA Tryd.prog 116 0 0 := ⟨fun a w => by kernel_rfl⟩
instance fa_116_1 : FA Tryd.prog 116 1 1 := ⟨fun a w => by kernel_rfl⟩
instance tob_3_5 : ToB Tryd.prog 3 5 := ⟨fun _ k n => run_conv_int k Tryd.underlying3 Tryd.underlying5 n⟩
instance ofb_5_3 : OfB Tryd.prog 5 3 .i64 := ⟨fun _ k n => run_conv_int k Tryd.underlying5 Tryd.underlying3 n, fun n h1 h2 => wrap_i64 (by omega)⟩
instance strt_22_9 : StrT Tryd.prog 22 9 cd_uint8 := ⟨⟨_, Tryd.underlying22, Tryd.underlying5⟩, Tryd.underlying9, rfl, fun _ => rfl⟩
theorem pN_shl_3_u64_3 (xo yo : Operand) (a : Int) : pN Tryd.prog (oBin .shl 3 xo yo (.int .i64 a) (.int .u64 3)) w K = K (.int .i64 (IntKind.wrap .i64 (a * 8))) w := pN_shln 3 3 8 rfl (by decide) (by decide)
theorem pA_shl_3_u64_3 (xo yo : Operand) (a : Int) : pA Tryd.prog (oBin .shl 3 xo yo (.int .i64 a) (.int .u64 3)) J = J (.int .i64 (IntKind.wrap .i64 (a * 8))) := pA_shln 3 3 8 rfl (by decide) (by decide)
theorem pN_shl_21_u64_12 (xo yo : Operand) (a : Int) : pN Tryd.prog (oBin .shl 21 xo yo (.int .i32 a) (.int .u64 12)) w K = K (.int .i32 (IntKind.wrap .i32 (a * 4096))) w := pN_shln 12 12 4096 rfl (by decide) (by decide)
theorem pA_shl_21_u64_12 (xo yo : Operand) (a : Int) : pA Tryd.prog (oBin .shl 21 xo yo (.int .i32 a) (.int .u64 12)) J = J (.int .i32 (IntKind.wrap .i32 (a * 4096))) := pA_shln 12 12 4096 rfl (by decide) (by decide)
theorem pN_shl_21_u64_18 (xo yo : Operand) (a : Int) : pN Tryd.prog (oBin .shl 21 xo yo (.int .i32 a) (.int .u64 18)) w K = K (.int .i32 (IntKind.wrap .i32 (a * 262144))) w := pN_shln 18 18 262144 rfl (by decide) (by decide)
theorem pA_shl_21_u64_18 (xo yo : Operand) (a : Int) : pA Tryd.prog (oBin .shl 21 xo yo (.int .i32 a) (.int .u64 18)) J = J (.int .i32 (IntKind.wrap .i32 (a * 262144))) := pA_shln 18 18 262144 rfl (by decide) (by decide)
theorem pN_shl_21_u64_31 (xo yo : Operand) (a : Int) : pN Tryd.prog (oBin .shl 21 xo yo (.int .i32 a) (.int .u64 31)) w K = K (.int .i32 (IntKind.wrap .i32 (a * 2147483648))) w := pN_shln 31 31 2147483648 rfl (by decide) (by decide)
theorem pA_shl_21_u64_31 (xo yo : Operand) (a : Int) : pA Tryd.prog (oBin .shl 21 xo yo (.int .i32 a) (.int .u64 31)) J = J (.int .i32 (IntKind.wrap .i32 (a * 2147483648))) := pA_shln 31 31 2147483648 rfl (by decide) (by decide)
theorem pN_shl_21_u64_6 (xo yo : Operand) (a : Int) : pN Tryd.prog (oBin .shl 21 xo yo (.int .i32 a) (.int .u64 6)) w K = K (.int .i32 (IntKind.wrap .i32 (a * 64))) w := pN_shln 6 6 64 rfl (by decide) (by decide)
theorem pA_shl_21_u64_6 (xo yo : Operand) (a : Int) : pA Tryd.prog (oBin .shl 21 xo yo (.int .i32 a) (.int .u64 6)) J = J (.int .i32 (IntKind.wrap .i32 (a * 64))) := pA_shln 6 6 64 rfl (by decide) (by decide)
theorem pN_shr_3_u64_3 (xo yo : Operand) (a : Int) : pN Tryd.prog (oBin .shr 3 xo yo (.int .i64 a) (.int .u64 3)) w K = K (.int .i64 (a / 8)) w := pN_shrn 3 3 8 rfl (by decide) (by decide)
theorem pA_shr_3_u64_3 (xo yo : Operand) (a : Int) : pA Tryd.prog (oBin .shr 3 xo yo (.int .i64 a) (.int .u64 3)) J = J (.int .i64 (a / 8)) := pA_shrn 3 3 8 rfl (by decide) (by decide)
theorem pN_shr_3_u64_4 (xo yo : Operand) (a : Int) : pN Tryd.prog (oBin .shr 3 xo yo (.int .i64 a) (.int .u64 4)) w K = K (.int .i64 (a / 16)) w := pN_shrn 4 4 16 rfl (by decide) (by decide)
theorem pA_shr_3_u64_4 (xo yo : Operand) (a : Int) : pA Tryd.prog (oBin .shr 3 xo yo (.int .i64 a) (.int .u64 4)) J = J (.int .i64 (a / 16)) := pA_shrn 4 4 16 rfl (by decide) (by decide)
theorem pN_shr_5_u64_4 (xo yo : Operand) (a : Int) : pN Tryd.prog (oBin .shr 5 xo yo (.int .u8 a) (.int .u64 4)) w K = K (.int .u8 (a / 16)) w := pN_shrn 4 4 16 rfl (by decide) (by decide)
theorem pA_shr_5_u64_4 (xo yo : Operand) (a : Int) : pA Tryd.prog (oBin .shr 5 xo yo (.int .u8 a) (.int .u64 4)) J = J (.int .u8 (a / 16)) := pA_shrn 4 4 16 rfl (by decide) (by decide)
theorem pN_shr_21_u64_31 (xo yo : Operand) (a : Int) : pN Tryd.prog (oBin .shr 21 xo yo (.int .i32 a) (.int .u64 31)) w K = K (.int .i32 (a / 2147483648)) w := pN_shrn 31 31 2147483648 rfl (by decide) (by decide)
theorem pA_shr_21_u64_31 (xo yo : Operand) (a : Int) : pA Tryd.prog (oBin .shr 21 xo yo (.int .i32 a) (.int .u64 31)) J = J (.int .i32 (a / 2147483648)) := pA_shrn 31 31 2147483648 rfl (by decide) (by decide)
theorem pN_and_3_7 (xo yo : Operand) (a : Int) : pN Tryd.prog (oBin .and 3 xo yo (.int .i64 a) (.int .i64 7)) w K = K (.int .i64 (a % 8)) w := pN_andn 3 7 8 rfl rfl (by decide) (wrap_i64 (by omega))
theorem pA_and_3_7 (xo yo : Operand) (a : Int) : pA Tryd.prog (oBin .and 3 xo yo (.int .i64 a) (.int .i64 7)) J = J (.int .i64 (a % 8)) := pA_andn 3 7 8 rfl rfl (by decide) (wrap_i64 (by omega))
theorem run_bld_24_  (w : World) : (oBuild 24 []).run Tryd.prog w = .ok (.value (.agg #[(.string ⟨#[]⟩), (.string ⟨#[]⟩), (.int .i64 0), (.int .i64 0), (.int .i64 0), (.slice none 0 0)])) w := by kernel_rfl
theorem pN_bld_24_  : pN Tryd.prog (oBuild 24 []) w K = K (.agg #[(.string ⟨#[]⟩), (.string ⟨#[]⟩), (.int .i64 0), (.int .i64 0), (.int .i64 0), (.slice none 0 0)]) w := by rw [pN_def, run_bld_24_, rN_value]
theorem run_bld_24_0 (x0 : ByteArray) (w : World) : (oBuild 24 [(0, .string x0)]).run Tryd.prog w = .ok (.value (.agg #[(.string x0), (.string ⟨#[]⟩), (.int .i64 0), (.int .i64 0), (.int .i64 0), (.slice none 0 0)])) w := by kernel_rfl
theorem pN_bld_24_0 (x0 : ByteArray) : pN Tryd.prog (oBuild 24 [(0, .string x0)]) w K = K (.agg #[(.string x0), (.string ⟨#[]⟩), (.int .i64 0), (.int .i64 0), (.int .i64 0), (.slice none 0 0)]) w := by rw [pN_def, run_bld_24_0, rN_value]
theorem run_bld_24_0_1_2_3_4 (x0 : ByteArray) (x1 : ByteArray) (x2 : Int) (x3 : Int) (x4 : Int) (w : World) : (oBuild 24 [(0, .string x0), (1, .string x1), (2, .int .i64 x2), (3, .int .i64 x3), (4, .int .i64 x4)]).run Tryd.prog w = .ok (.value (.agg #[(.string x0), (.string x1), (.int .i64 x2), (.int .i64 x3), (.int .i64 x4), (.slice none 0 0)])) w := by kernel_rfl
theorem pN_bld_24_0_1_2_3_4 (x0 : ByteArray) (x1 : ByteArray) (x2 : Int) (x3 : Int) (x4 : Int) : pN Tryd.prog (oBuild 24 [(0, .string x0), (1, .string x1), (2, .int .i64 x2), (3, .int .i64 x3), (4, .int .i64 x4)]) w K = K (.agg #[(.string x0), (.string x1), (.int .i64 x2), (.int .i64 x3), (.int .i64 x4), (.slice none 0 0)]) w := by rw [pN_def, run_bld_24_0_1_2_3_4, rN_value]
theorem run_bld_24_0_3_4_5 (x0 : ByteArray) (x3 : Int) (x4 : Int) (x5 : Option Addr) (x5n x5c : Nat) (w : World) : (oBuild 24 [(0, .string x0), (3, .int .i64 x3), (4, .int .i64 x4), (5, .slice x5 x5n x5c)]).run Tryd.prog w = .ok (.value (.agg #[(.string x0), (.string ⟨#[]⟩), (.int .i64 0), (.int .i64 x3), (.int .i64 x4), (.slice x5 x5n x5c)])) w := by kernel_rfl
theorem pN_bld_24_0_3_4_5 (x0 : ByteArray) (x3 : Int) (x4 : Int) (x5 : Option Addr) (x5n x5c : Nat) : pN Tryd.prog (oBuild 24 [(0, .string x0), (3, .int .i64 x3), (4, .int .i64 x4), (5, .slice x5 x5n x5c)]) w K = K (.agg #[(.string x0), (.string ⟨#[]⟩), (.int .i64 0), (.int .i64 x3), (.int .i64 x4), (.slice x5 x5n x5c)]) w := by rw [pN_def, run_bld_24_0_3_4_5, rN_value]
theorem run_bld_75_  (w : World) : (oBuild 75 []).run Tryd.prog w = .ok (.value (.agg #[(.slice none 0 0), (.slice none 0 0)])) w := by kernel_rfl
theorem pN_bld_75_  : pN Tryd.prog (oBuild 75 []) w K = K (.agg #[(.slice none 0 0), (.slice none 0 0)]) w := by rw [pN_def, run_bld_75_, rN_value]
theorem run_bld_116_0_1 (x0 : UInt8) (x1 : UInt8) (w : World) : (oBuild 116 [(0, bv x0), (1, bv x1)]).run Tryd.prog w = .ok (.value (.agg #[(bv x0), (bv x1)])) w := by kernel_rfl
theorem pN_bld_116_0_1 (x0 : UInt8) (x1 : UInt8) : pN Tryd.prog (oBuild 116 [(0, bv x0), (1, bv x1)]) w K = K (.agg #[(bv x0), (bv x1)]) w := by rw [pN_def, run_bld_116_0_1, rN_value]
end
attribute [go_sem] pN_shl_3_u64_3 pA_shl_3_u64_3 pN_shl_21_u64_12 pA_shl_21_u64_12 pN_shl_21_u64_18 pA_shl_21_u64_18 pN_shl_21_u64_31 pA_shl_21_u64_31 pN_shl_21_u64_6 pA_shl_21_u64_6 pN_shr_3_u64_3 pA_shr_3_u64_3 pN_shr_3_u64_4 pA_shr_3_u64_4 pN_shr_5_u64_4 pA_shr_5_u64_4 pN_shr_21_u64_31 pA_shr_21_u64_31 pN_and_3_7 pA_and_3_7 pN_bld_24_ pN_bld_24_0 pN_bld_24_0_1_2_3_4 pN_bld_24_0_3_4_5 pN_bld_75_ pN_bld_116_0_1
theorem cells_3 : Tryd.prog.cellsOf 3 = 1 := by kernel_rfl
theorem bytes_3 : Tryd.prog.bytesOf 3 = 8 := by kernel_rfl
theorem cells_5 : Tryd.prog.cellsOf 5 = 1 := by kernel_rfl
theorem bytes_5 : Tryd.prog.bytesOf 5 = 1 := by kernel_rfl
theorem cells_9 : Tryd.prog.cellsOf 9 = 1 := by kernel_rfl
theorem bytes_9 : Tryd.prog.bytesOf 9 = 16 := by kernel_rfl
theorem cells_22 : Tryd.prog.cellsOf 22 = 1 := by kernel_rfl
theorem bytes_22 : Tryd.prog.bytesOf 22 = 24 := by kernel_rfl
theorem cells_24 : Tryd.prog.cellsOf 24 = 6 := by kernel_rfl
theorem bytes_24 : Tryd.prog.bytesOf 24 = 80 := by kernel_rfl
theorem cells_25 : Tryd.prog.cellsOf 25 = 1 := by kernel_rfl
theorem bytes_25 : Tryd.prog.bytesOf 25 = 8 := by kernel_rfl
theorem cells_34 : Tryd.prog.cellsOf 34 = 1 := by kernel_rfl
theorem bytes_34 : Tryd.prog.bytesOf 34 = 24 := by kernel_rfl
theorem cells_54 : Tryd.prog.cellsOf 54 = 1 := by kernel_rfl
theorem bytes_54 : Tryd.prog.bytesOf 54 = 24 := by kernel_rfl
theorem piece (cs : List Value) (o s : Nat) : cs.drop o = (cs.drop o).take s ++ cs.drop (o + s) := by rw [← List.drop_drop, List.take_append_drop]
def T_api_Item.ok (W : World) (b : T_api_Item) (k : Nat) : Prop := (∃ k', k' ≤ k ∧ (b.Name.length ≤ reachBytes ∧ b.Name.length + 1 ≤ k')) ∧ (∃ k', k' ≤ k ∧ (b.Link.length ≤ reachBytes ∧ b.Link.length + 1 ≤ k')) ∧ (-9223372036854775808 ≤ b.Kind ∧ b.Kind < 9223372036854775808) ∧ (-9223372036854775808 ≤ b.Mode ∧ b.Mode < 9223372036854775808) ∧ (-9223372036854775808 ≤ b.Time ∧ b.Time < 9223372036854775808) ∧ (∃ k', k' ≤ k ∧ (RdP cd_uint8 (old W) b.Data.1 b.Data.2 ∧ b.Data.2.length * 1 ≤ reachBytes ∧ b.Data.2.length + 1 ≤ k' ∧ ∀ c0 ∈ b.Data.2, ∃ k0, k0 ≤ k' ∧ True))
theorem opn_api_Item (W : World) : Opn Tryd.prog W 24 T_api_Item.enc (T_api_Item.ok W) := by
  refine ⟨fun {H} en fuel cs x hx hw => ?_⟩
  obtain ⟨xs, n, _, rfl, hl, hlen, hf⟩ := DataW.trod_struct Tryd.underlying24 hx
  have hlen : xs.length = 6 := hlen
  rw [cells_24] at hl
  obtain ⟨b0, e0, k0, m0, o0⟩ := opn_field Tryd.underlying24 hw hf 0 9 0 1 ⟨_, rfl, rfl, rfl⟩ cells_9 (by omega) (opn_str Tryd.underlying9)
  have q0 := piece cs 0 1
  rw [e0] at q0
  obtain ⟨b1, e1, k1, m1, o1⟩ := opn_field Tryd.underlying24 hw hf 1 9 1 1 ⟨_, rfl, rfl, rfl⟩ cells_9 (by omega) (opn_str Tryd.underlying9)
  have q1 := piece cs 1 1
  rw [e1] at q1
  obtain ⟨b2, e2, k2, m2, o2⟩ := opn_field Tryd.underlying24 hw hf 2 3 2 1 ⟨_, rfl, rfl, rfl⟩ cells_3 (by omega) (opn_i64 Tryd.underlying3)
  have q2 := piece cs 2 1
  rw [e2] at q2
  obtain ⟨b3, e3, k3, m3, o3⟩ := opn_field Tryd.underlying24 hw hf 3 3 3 1 ⟨_, rfl, rfl, rfl⟩ cells_3 (by omega) (opn_i64 Tryd.underlying3)
  have q3 := piece cs 3 1
  rw [e3] at q3
  obtain ⟨b4, e4, k4, m4, o4⟩ := opn_field Tryd.underlying24 hw hf 4 3 4 1 ⟨_, rfl, rfl, rfl⟩ cells_3 (by omega) (opn_i64 Tryd.underlying3)
  have q4 := piece cs 4 1
  rw [e4] at q4
  obtain ⟨b5, e5, k5, m5, o5⟩ := opn_field Tryd.underlying24 hw hf 5 22 5 1 ⟨_, rfl, rfl, rfl⟩ cells_22 (by omega) (opn_slice (C := cd_uint8) Tryd.underlying22 cells_5 bytes_5 (opn_u8 Tryd.underlying5))
  have q5 := piece cs 5 1
  rw [e5] at q5
  have hz : cs.drop 6 = [] := List.drop_of_length_le (by omega)
  refine ⟨⟨b0, b1, b2, b3, b4, b5⟩, ?_, ⟨⟨_, m0, o0⟩, ⟨_, m1, o1⟩, o2, o3, o4, ⟨_, m5, o5⟩⟩⟩
  have q : cs.drop 0 = _ := q0
  simp only [Nat.zero_add, Nat.reduceAdd, hz, List.drop_zero] at q q1 q2 q3 q4 q5
  rw [q1] at q
  rw [q2] at q
  rw [q3] at q
  rw [q4] at q
  rw [q5] at q
  exact q
end Go.Proofs.YteeepkimnpabiaaDoor
