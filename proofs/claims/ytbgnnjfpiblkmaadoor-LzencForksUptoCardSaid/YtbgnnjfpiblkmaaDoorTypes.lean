/-
  The seat's types: instances, codecs, how arguments read. Printed by a program of mine (types.py).
-/
import Derived.Test.YtbgnnjfpiblkmaaDoorFacts
import Derived.Test.YtbgnnjfpiblkmaaDoorOpen
namespace Go.Proofs.YtbgnnjfpiblkmaaDoor
open Go Go.RowKit Go.ChangeShapes
set_option linter.unusedSimpArgs false
set_option linter.unnecessarySimpa false
set_option linter.unusedSectionVars false
set_option linter.unusedVariables false

instance sc_3 : Sc Tryd.prog 3 := ⟨Tryd.isAgg3, Tryd.sizeOf3⟩
instance sc_4 : Sc Tryd.prog 4 := ⟨Tryd.isAgg4, Tryd.sizeOf4⟩
instance sc_5 : Sc Tryd.prog 5 := ⟨Tryd.isAgg5, Tryd.sizeOf5⟩
instance sc_9 : Sc Tryd.prog 9 := ⟨Tryd.isAgg9, Tryd.sizeOf9⟩
instance ag_23 : Ag Tryd.prog 23 3 := ⟨Tryd.isAgg23, Tryd.sizeOf23⟩
instance ag_25 : Ag Tryd.prog 25 4 := ⟨Tryd.isAgg25, Tryd.sizeOf25⟩
instance sc_26 : Sc Tryd.prog 26 := ⟨Tryd.isAgg26, Tryd.sizeOf26⟩
instance sc_27 : Sc Tryd.prog 27 := ⟨Tryd.isAgg27, Tryd.sizeOf27⟩
instance sc_28 : Sc Tryd.prog 28 := ⟨Tryd.isAgg28, Tryd.sizeOf28⟩
instance ag_34 : Ag Tryd.prog 34 4 := ⟨Tryd.isAgg34, Tryd.sizeOf34⟩
instance sc_38 : Sc Tryd.prog 38 := ⟨Tryd.isAgg38, Tryd.sizeOf38⟩
instance sc_46 : Sc Tryd.prog 46 := ⟨Tryd.isAgg46, Tryd.sizeOf46⟩
instance sc_49 : Sc Tryd.prog 49 := ⟨Tryd.isAgg49, Tryd.sizeOf49⟩
instance sc_51 : Sc Tryd.prog 51 := ⟨Tryd.isAgg51, Tryd.sizeOf51⟩
instance ag_54 : Ag Tryd.prog 54 3 := ⟨Tryd.isAgg54, Tryd.sizeOf54⟩
instance ag_57 : Ag Tryd.prog 57 1 := ⟨Tryd.isAgg57, Tryd.sizeOf57⟩
instance ag_58 : Ag Tryd.prog 58 4 := ⟨Tryd.isAgg58, Tryd.sizeOf58⟩
instance ag_60 : Ag Tryd.prog 60 5 := ⟨Tryd.isAgg60, Tryd.sizeOf60⟩
instance sc_63 : Sc Tryd.prog 63 := ⟨Tryd.isAgg63, Tryd.sizeOf63⟩
instance ag_65 : Ag Tryd.prog 65 4 := ⟨Tryd.isAgg65, Tryd.sizeOf65⟩
instance ag_67 : Ag Tryd.prog 67 26 := ⟨Tryd.isAgg67, Tryd.sizeOf67⟩
instance ag_71 : Ag Tryd.prog 71 1 := ⟨Tryd.isAgg71, Tryd.sizeOf71⟩
instance sc_72 : Sc Tryd.prog 72 := ⟨Tryd.isAgg72, Tryd.sizeOf72⟩
instance ag_74 : Ag Tryd.prog 74 4 := ⟨Tryd.isAgg74, Tryd.sizeOf74⟩
instance sc_78 : Sc Tryd.prog 78 := ⟨Tryd.isAgg78, Tryd.sizeOf78⟩
instance sc_79 : Sc Tryd.prog 79 := ⟨Tryd.isAgg79, Tryd.sizeOf79⟩
instance ag_81 : Ag Tryd.prog 81 5 := ⟨Tryd.isAgg81, Tryd.sizeOf81⟩
instance sc_87 : Sc Tryd.prog 87 := ⟨Tryd.isAgg87, Tryd.sizeOf87⟩
instance sc_95 : Sc Tryd.prog 95 := ⟨Tryd.isAgg95, Tryd.sizeOf95⟩
instance sc_96 : Sc Tryd.prog 96 := ⟨Tryd.isAgg96, Tryd.sizeOf96⟩
instance ag_100 : Ag Tryd.prog 100 12 := ⟨Tryd.isAgg100, Tryd.sizeOf100⟩
instance sc_102 : Sc Tryd.prog 102 := ⟨Tryd.isAgg102, Tryd.sizeOf102⟩
instance sc_110 : Sc Tryd.prog 110 := ⟨Tryd.isAgg110, Tryd.sizeOf110⟩
instance ag_112 : Ag Tryd.prog 112 1 := ⟨Tryd.isAgg112, Tryd.sizeOf112⟩
instance sc_140 : Sc Tryd.prog 140 := ⟨Tryd.isAgg140, Tryd.sizeOf140⟩
instance zv_3 : Zv Tryd.prog 3 [(.int .i64 0)] := ⟨_, Tryd.zeroValue3, rfl⟩
instance zv_4 : Zv Tryd.prog 4 [(.bool false)] := ⟨_, Tryd.zeroValue4, rfl⟩
instance zv_5 : Zv Tryd.prog 5 [(bv 0)] := ⟨_, Tryd.zeroValue5, rfl⟩
instance zv_9 : Zv Tryd.prog 9 [(.string ⟨#[]⟩)] := ⟨_, Tryd.zeroValue9, rfl⟩
instance zv_23 : Zv Tryd.prog 23 [(.int .i64 0), (.int .i64 0), (.int .i64 0)] := ⟨_, Tryd.zeroValue23, rfl⟩
instance zv_25 : Zv Tryd.prog 25 [(.int .i64 0), (.int .i64 0), (.int .i64 0), (.int .i64 0)] := ⟨_, Tryd.zeroValue25, rfl⟩
instance zv_26 : Zv Tryd.prog 26 [(.slice none 0 0)] := ⟨_, Tryd.zeroValue26, rfl⟩
instance zv_27 : Zv Tryd.prog 27 [(.pointer none)] := ⟨_, Tryd.zeroValue27, rfl⟩
instance zv_28 : Zv Tryd.prog 28 [(.int .i64 0)] := ⟨_, Tryd.zeroValue28, rfl⟩
instance zv_34 : Zv Tryd.prog 34 [(.int .i64 0), (bv 0), (.int .i64 0), (.int .i64 0)] := ⟨_, Tryd.zeroValue34, rfl⟩
instance zv_38 : Zv Tryd.prog 38 [(.slice none 0 0)] := ⟨_, Tryd.zeroValue38, rfl⟩
instance zv_46 : Zv Tryd.prog 46 [(.pointer none)] := ⟨_, Tryd.zeroValue46, rfl⟩
instance zv_49 : Zv Tryd.prog 49 [(.pointer none)] := ⟨_, Tryd.zeroValue49, rfl⟩
instance zv_51 : Zv Tryd.prog 51 [(.pointer none)] := ⟨_, Tryd.zeroValue51, rfl⟩
instance zv_54 : Zv Tryd.prog 54 [(.pointer none), (.pointer none), (.pointer none)] := ⟨_, Tryd.zeroValue54, rfl⟩
instance zv_57 : Zv Tryd.prog 57 [(.pointer none)] := ⟨_, Tryd.zeroValue57, rfl⟩
instance zv_58 : Zv Tryd.prog 58 [(.int .i64 0), (.int .i64 0), (.int .i64 0), (.int .i64 0)] := ⟨_, Tryd.zeroValue58, rfl⟩
instance zv_60 : Zv Tryd.prog 60 [(.int .i64 0), (.int .i64 0), (.int .i64 0), (.int .i64 0), (.int .i64 0)] := ⟨_, Tryd.zeroValue60, rfl⟩
instance zv_63 : Zv Tryd.prog 63 [(.pointer none)] := ⟨_, Tryd.zeroValue63, rfl⟩
instance zv_65 : Zv Tryd.prog 65 [(.pointer none), (.pointer none), (.pointer none), (.pointer none)] := ⟨_, Tryd.zeroValue65, rfl⟩
instance zv_67 : Zv Tryd.prog 67 [(.int .i64 0), (.int .i64 0), (.int .i64 0), (.int .i64 0), (.int .i64 0), (.int .i64 0), (.int .i64 0), (.int .i64 0), (.pointer none), (.pointer none), (.pointer none), (.pointer none), (.pointer none), (.pointer none), (.pointer none), (.pointer none), (.pointer none), (.pointer none), (.pointer none), (.pointer none), (.pointer none), (.pointer none), (.pointer none), (.pointer none), (.pointer none), (.pointer none)] := ⟨_, Tryd.zeroValue67, rfl⟩
instance zv_71 : Zv Tryd.prog 71 [(.int .i64 0)] := ⟨_, Tryd.zeroValue71, rfl⟩
instance zv_72 : Zv Tryd.prog 72 [(.pointer none)] := ⟨_, Tryd.zeroValue72, rfl⟩
instance zv_74 : Zv Tryd.prog 74 [(.int .i64 0), (.slice none 0 0), (.int .i64 0), (.int .i64 0)] := ⟨_, Tryd.zeroValue74, rfl⟩
instance zv_78 : Zv Tryd.prog 78 [(.int .u32 0)] := ⟨_, Tryd.zeroValue78, rfl⟩
instance zv_79 : Zv Tryd.prog 79 [(.int .u64 0)] := ⟨_, Tryd.zeroValue79, rfl⟩
instance zv_81 : Zv Tryd.prog 81 [(.int .u64 0), (.int .u32 0), (bv 0), (.int .i64 0), (.slice none 0 0)] := ⟨_, Tryd.zeroValue81, rfl⟩
instance zv_87 : Zv Tryd.prog 87 [.nilIface] := ⟨_, Tryd.zeroValue87, rfl⟩
instance zv_95 : Zv Tryd.prog 95 [(.pointer none)] := ⟨_, Tryd.zeroValue95, rfl⟩
instance zv_96 : Zv Tryd.prog 96 [(.slice none 0 0)] := ⟨_, Tryd.zeroValue96, rfl⟩
instance zv_100 : Zv Tryd.prog 100 [(.int .i64 0), (.int .i64 0), (.int .i64 0), (.int .i64 0), (.int .i64 0), (.int .i64 0), (.int .i64 0), (.int .i64 0), (.int .i64 0), (.int .i64 0), (.int .i64 0), (.int .i64 0)] := ⟨_, Tryd.zeroValue100, rfl⟩
instance zv_102 : Zv Tryd.prog 102 [(.slice none 0 0)] := ⟨_, Tryd.zeroValue102, rfl⟩
instance zv_110 : Zv Tryd.prog 110 [(.int .u64 0)] := ⟨_, Tryd.zeroValue110, rfl⟩
instance zv_112 : Zv Tryd.prog 112 [(.slice none 0 0)] := ⟨_, Tryd.zeroValue112, rfl⟩
instance zv_140 : Zv Tryd.prog 140 [.nilFunc] := ⟨_, Tryd.zeroValue140, rfl⟩
structure T_api_Props where
  LC : Int
  LP : Int
  PB : Int
def T_api_Props.zero : T_api_Props := ⟨0, 0, 0⟩
def T_api_Props.enc (b : T_api_Props) : List Value := [.int .i64 b.LC, .int .i64 b.LP, .int .i64 b.PB]
structure T_pithlaw14_Setup where
  Props : T_api_Props
  Dict : Int
def T_pithlaw14_Setup.zero : T_pithlaw14_Setup := ⟨T_api_Props.zero, 0⟩
def T_pithlaw14_Setup.enc (b : T_pithlaw14_Setup) : List Value := b.Props.enc ++ [.int .i64 b.Dict]
structure T_api_Symbol where
  Kind : Int
  Byte : UInt8
  Len : Int
  Dist : Int
def T_api_Symbol.zero : T_api_Symbol := ⟨0, 0, 0, 0⟩
def T_api_Symbol.enc (b : T_api_Symbol) : List Value := [.int .i64 b.Kind, bv b.Byte, .int .i64 b.Len, .int .i64 b.Dist]
def cd_int : Cd Int := { e := 3, size := 1, bytes := 8, zero := 0, enc := fun b => [.int .i64 b], len := fun _ => rfl, one := by intro b u hu; simp only [List.mem_cons, List.not_mem_nil, or_false] at hu; subst hu; rfl }
instance bt_int : Bt cd_int 8 := ⟨rfl⟩
def cd_uint8 : Cd UInt8 := { e := 5, size := 1, bytes := 1, zero := 0, enc := fun b => [bv b], len := fun _ => rfl, one := by intro b u hu; simp only [List.mem_cons, List.not_mem_nil, or_false] at hu; subst hu; rfl }
instance bt_uint8 : Bt cd_uint8 1 := ⟨rfl⟩
def cd_api_Props : Cd T_api_Props := { e := 23, size := 3, bytes := 24, zero := T_api_Props.zero, enc := T_api_Props.enc, len := fun _ => rfl, one := by intro b u hu; simp only [T_api_Props.enc, T_api_Symbol.enc, T_pithlaw14_Setup.enc, List.mem_cons, List.mem_append, List.not_mem_nil, or_false] at hu; rcases hu with rfl|rfl|rfl <;> rfl }
instance bt_api_Props : Bt cd_api_Props 24 := ⟨rfl⟩
def cd_pithlaw14_Setup : Cd T_pithlaw14_Setup := { e := 25, size := 4, bytes := 32, zero := T_pithlaw14_Setup.zero, enc := T_pithlaw14_Setup.enc, len := fun _ => rfl, one := by intro b u hu; simp only [T_api_Props.enc, T_api_Symbol.enc, T_pithlaw14_Setup.enc, List.mem_cons, List.mem_append, List.not_mem_nil, or_false] at hu; repeat (first | (subst hu; rfl) | (rcases hu with hu | hu)) }
instance bt_pithlaw14_Setup : Bt cd_pithlaw14_Setup 32 := ⟨rfl⟩
def cd_api_Symbol : Cd T_api_Symbol := { e := 34, size := 4, bytes := 32, zero := T_api_Symbol.zero, enc := T_api_Symbol.enc, len := fun _ => rfl, one := by intro b u hu; simp only [T_api_Props.enc, T_api_Symbol.enc, T_pithlaw14_Setup.enc, List.mem_cons, List.mem_append, List.not_mem_nil, or_false] at hu; rcases hu with rfl|rfl|rfl|rfl <;> rfl }
instance bt_api_Symbol : Bt cd_api_Symbol 32 := ⟨rfl⟩
def cd_p_p_prob_Set : Cd (Option Addr) := { e := 95, size := 1, bytes := 8, zero := none, enc := fun b => [.pointer b], len := fun _ => rfl, one := by intro b u hu; simp only [List.mem_cons, List.not_mem_nil, or_false] at hu; subst hu; rfl }
instance bt_p_p_prob_Set : Bt cd_p_p_prob_Set 8 := ⟨rfl⟩
theorem flat_uint8 (l : List UInt8) : cd_uint8.flat l = bvs l := cd_uint8.flat_single bv (fun _ => rfl) l
instance row_26 : Row Tryd.prog 26 T_api_Symbol cd_api_Symbol := ⟨⟨(.agg #[(.int .i64 0), (.int .u8 0), (.int .i64 0), (.int .i64 0)]), ⟨Tryd.underlying26, info_parts (by kernel_rfl), rfl, by decide⟩, rfl⟩, by decide⟩
instance row_38 : Row Tryd.prog 38 UInt8 cd_uint8 := ⟨⟨(.int .u8 0), ⟨Tryd.underlying38, info_parts (by kernel_rfl), rfl, by decide⟩, rfl⟩, by decide⟩
instance row_96 : Row Tryd.prog 96 (Option Addr) cd_p_p_prob_Set := ⟨⟨(.pointer none), ⟨Tryd.underlying96, info_parts (by kernel_rfl), rfl, by decide⟩, rfl⟩, by decide⟩
instance row_102 : Row Tryd.prog 102 Int cd_int := ⟨⟨(.int .i64 0), ⟨Tryd.underlying102, info_parts (by kernel_rfl), rfl, by decide⟩, rfl⟩, by decide⟩
section
variable [Pan] {w : World} {K : Value → World → Prop} {J : Value → Prop}
instance fa_23_0 : FA Tryd.prog 23 0 0 := ⟨fun a w => by kernel_rfl⟩
instance fa_23_1 : FA Tryd.prog 23 1 1 := ⟨fun a w => by kernel_rfl⟩
instance fa_23_2 : FA Tryd.prog 23 2 2 := ⟨fun a w => by kernel_rfl⟩
instance fa_25_0 : FA Tryd.prog 25 0 0 := ⟨fun a w => by kernel_rfl⟩
instance fa_25_1 : FA Tryd.prog 25 1 3 := ⟨fun a w => by kernel_rfl⟩
instance fa_34_0 : FA Tryd.prog 34 0 0 := ⟨fun a w => by kernel_rfl⟩
instance fa_34_1 : FA Tryd.prog 34 1 1 := ⟨fun a w => by kernel_rfl⟩
instance fa_34_2 : FA Tryd.prog 34 2 2 := ⟨fun a w => by kernel_rfl⟩
instance fa_34_3 : FA Tryd.prog 34 3 3 := ⟨fun a w => by kernel_rfl⟩
instance fa_54_0 : FA Tryd.prog 54 0 0 := ⟨fun a w => by kernel_rfl⟩
instance fa_54_1 : FA Tryd.prog 54 1 1 := ⟨fun a w => by kernel_rfl⟩
instance fa_54_2 : FA Tryd.prog 54 2 2 := ⟨fun a w => by kernel_rfl⟩
instance fa_57_0 : FA Tryd.prog 57 0 0 := ⟨fun a w => by kernel_rfl⟩
instance fa_60_0 : FA Tryd.prog 60 0 0 := ⟨fun a w => by kernel_rfl⟩
instance fa_60_1 : FA Tryd.prog 60 1 1 := ⟨fun a w => by kernel_rfl⟩
instance fa_65_0 : FA Tryd.prog 65 0 0 := ⟨fun a w => by kernel_rfl⟩
instance fa_65_1 : FA Tryd.prog 65 1 1 := ⟨fun a w => by kernel_rfl⟩
instance fa_65_2 : FA Tryd.prog 65 2 2 := ⟨fun a w => by kernel_rfl⟩
instance fa_65_3 : FA Tryd.prog 65 3 3 := ⟨fun a w => by kernel_rfl⟩
instance fa_67_0 : FA Tryd.prog 67 0 0 := ⟨fun a w => by kernel_rfl⟩
instance fa_67_1 : FA Tryd.prog 67 1 3 := ⟨fun a w => by kernel_rfl⟩
instance fa_67_2 : FA Tryd.prog 67 2 8 := ⟨fun a w => by kernel_rfl⟩
instance fa_67_3 : FA Tryd.prog 67 3 9 := ⟨fun a w => by kernel_rfl⟩
instance fa_67_4 : FA Tryd.prog 67 4 10 := ⟨fun a w => by kernel_rfl⟩
instance fa_67_5 : FA Tryd.prog 67 5 11 := ⟨fun a w => by kernel_rfl⟩
instance fa_67_6 : FA Tryd.prog 67 6 12 := ⟨fun a w => by kernel_rfl⟩
instance fa_67_7 : FA Tryd.prog 67 7 13 := ⟨fun a w => by kernel_rfl⟩
instance fa_67_8 : FA Tryd.prog 67 8 14 := ⟨fun a w => by kernel_rfl⟩
instance fa_67_9 : FA Tryd.prog 67 9 15 := ⟨fun a w => by kernel_rfl⟩
instance fa_67_10 : FA Tryd.prog 67 10 19 := ⟨fun a w => by kernel_rfl⟩
instance fa_67_11 : FA Tryd.prog 67 11 23 := ⟨fun a w => by kernel_rfl⟩
instance fa_67_12 : FA Tryd.prog 67 12 24 := ⟨fun a w => by kernel_rfl⟩
instance fa_67_13 : FA Tryd.prog 67 13 25 := ⟨fun a w => by kernel_rfl⟩
instance fa_71_0 : FA Tryd.prog 71 0 0 := ⟨fun a w => by kernel_rfl⟩
instance fa_74_0 : FA Tryd.prog 74 0 0 := ⟨fun a w => by kernel_rfl⟩
instance fa_74_1 : FA Tryd.prog 74 1 1 := ⟨fun a w => by kernel_rfl⟩
instance fa_74_2 : FA Tryd.prog 74 2 2 := ⟨fun a w => by kernel_rfl⟩
instance fa_74_3 : FA Tryd.prog 74 3 3 := ⟨fun a w => by kernel_rfl⟩
instance fa_81_0 : FA Tryd.prog 81 0 0 := ⟨fun a w => by kernel_rfl⟩
instance fa_81_1 : FA Tryd.prog 81 1 1 := ⟨fun a w => by kernel_rfl⟩
instance fa_81_2 : FA Tryd.prog 81 2 2 := ⟨fun a w => by kernel_rfl⟩
instance fa_81_3 : FA Tryd.prog 81 3 3 := ⟨fun a w => by kernel_rfl⟩
instance fa_81_4 : FA Tryd.prog 81 4 4 := ⟨fun a w => by kernel_rfl⟩
instance fa_112_0 : FA Tryd.prog 112 0 0 := ⟨fun a w => by kernel_rfl⟩
instance ofb_5_3 : OfB Tryd.prog 5 3 .i64 := ⟨fun _ k n => run_conv_int k Tryd.underlying5 Tryd.underlying3 n, fun n h1 h2 => wrap_i64 (by omega)⟩
instance strt_38_9 : StrT Tryd.prog 38 9 cd_uint8 := ⟨⟨_, Tryd.underlying38, Tryd.underlying5⟩, Tryd.underlying9, rfl, fun _ => rfl⟩
instance tob_78_5 : ToB Tryd.prog 78 5 := ⟨fun _ k n => run_conv_int k Tryd.underlying78 Tryd.underlying5 n⟩
instance tob_79_5 : ToB Tryd.prog 79 5 := ⟨fun _ k n => run_conv_int k Tryd.underlying79 Tryd.underlying5 n⟩
theorem pN_shl_78_u64_8 (xo yo : Operand) (a : Int) : pN Tryd.prog (oBin .shl 78 xo yo (.int .u32 a) (.int .u64 8)) w K = K (.int .u32 (IntKind.wrap .u32 (a * 256))) w := pN_shln 8 8 256 rfl (by decide) (by decide)
theorem pA_shl_78_u64_8 (xo yo : Operand) (a : Int) : pA Tryd.prog (oBin .shl 78 xo yo (.int .u32 a) (.int .u64 8)) J = J (.int .u32 (IntKind.wrap .u32 (a * 256))) := pA_shln 8 8 256 rfl (by decide) (by decide)
theorem pN_shl_79_u64_8 (xo yo : Operand) (a : Int) : pN Tryd.prog (oBin .shl 79 xo yo (.int .u64 a) (.int .u64 8)) w K = K (.int .u64 (IntKind.wrap .u64 (a * 256))) w := pN_shln 8 8 256 rfl (by decide) (by decide)
theorem pA_shl_79_u64_8 (xo yo : Operand) (a : Int) : pA Tryd.prog (oBin .shl 79 xo yo (.int .u64 a) (.int .u64 8)) J = J (.int .u64 (IntKind.wrap .u64 (a * 256))) := pA_shln 8 8 256 rfl (by decide) (by decide)
theorem pN_shr_3_u64_4 (xo yo : Operand) (a : Int) : pN Tryd.prog (oBin .shr 3 xo yo (.int .i64 a) (.int .u64 4)) w K = K (.int .i64 (a / 16)) w := pN_shrn 4 4 16 rfl (by decide) (by decide)
theorem pA_shr_3_u64_4 (xo yo : Operand) (a : Int) : pA Tryd.prog (oBin .shr 3 xo yo (.int .i64 a) (.int .u64 4)) J = J (.int .i64 (a / 16)) := pA_shrn 4 4 16 rfl (by decide) (by decide)
theorem pN_shr_3_u64_5 (xo yo : Operand) (a : Int) : pN Tryd.prog (oBin .shr 3 xo yo (.int .i64 a) (.int .u64 5)) w K = K (.int .i64 (a / 32)) w := pN_shrn 5 5 32 rfl (by decide) (by decide)
theorem pA_shr_3_u64_5 (xo yo : Operand) (a : Int) : pA Tryd.prog (oBin .shr 3 xo yo (.int .i64 a) (.int .u64 5)) J = J (.int .i64 (a / 32)) := pA_shrn 5 5 32 rfl (by decide) (by decide)
theorem pN_shr_78_u64_11 (xo yo : Operand) (a : Int) : pN Tryd.prog (oBin .shr 78 xo yo (.int .u32 a) (.int .u64 11)) w K = K (.int .u32 (a / 2048)) w := pN_shrn 11 11 2048 rfl (by decide) (by decide)
theorem pA_shr_78_u64_11 (xo yo : Operand) (a : Int) : pA Tryd.prog (oBin .shr 78 xo yo (.int .u32 a) (.int .u64 11)) J = J (.int .u32 (a / 2048)) := pA_shrn 11 11 2048 rfl (by decide) (by decide)
theorem pN_shr_78_u64_16 (xo yo : Operand) (a : Int) : pN Tryd.prog (oBin .shr 78 xo yo (.int .u32 a) (.int .u64 16)) w K = K (.int .u32 (a / 65536)) w := pN_shrn 16 16 65536 rfl (by decide) (by decide)
theorem pA_shr_78_u64_16 (xo yo : Operand) (a : Int) : pA Tryd.prog (oBin .shr 78 xo yo (.int .u32 a) (.int .u64 16)) J = J (.int .u32 (a / 65536)) := pA_shrn 16 16 65536 rfl (by decide) (by decide)
theorem pN_shr_78_u64_8 (xo yo : Operand) (a : Int) : pN Tryd.prog (oBin .shr 78 xo yo (.int .u32 a) (.int .u64 8)) w K = K (.int .u32 (a / 256)) w := pN_shrn 8 8 256 rfl (by decide) (by decide)
theorem pA_shr_78_u64_8 (xo yo : Operand) (a : Int) : pA Tryd.prog (oBin .shr 78 xo yo (.int .u32 a) (.int .u64 8)) J = J (.int .u32 (a / 256)) := pA_shrn 8 8 256 rfl (by decide) (by decide)
theorem pN_shr_79_u64_16 (xo yo : Operand) (a : Int) : pN Tryd.prog (oBin .shr 79 xo yo (.int .u64 a) (.int .u64 16)) w K = K (.int .u64 (a / 65536)) w := pN_shrn 16 16 65536 rfl (by decide) (by decide)
theorem pA_shr_79_u64_16 (xo yo : Operand) (a : Int) : pA Tryd.prog (oBin .shr 79 xo yo (.int .u64 a) (.int .u64 16)) J = J (.int .u64 (a / 65536)) := pA_shrn 16 16 65536 rfl (by decide) (by decide)
theorem pN_shr_79_u64_24 (xo yo : Operand) (a : Int) : pN Tryd.prog (oBin .shr 79 xo yo (.int .u64 a) (.int .u64 24)) w K = K (.int .u64 (a / 16777216)) w := pN_shrn 24 24 16777216 rfl (by decide) (by decide)
theorem pA_shr_79_u64_24 (xo yo : Operand) (a : Int) : pA Tryd.prog (oBin .shr 79 xo yo (.int .u64 a) (.int .u64 24)) J = J (.int .u64 (a / 16777216)) := pA_shrn 24 24 16777216 rfl (by decide) (by decide)
theorem pN_shr_79_u64_32 (xo yo : Operand) (a : Int) : pN Tryd.prog (oBin .shr 79 xo yo (.int .u64 a) (.int .u64 32)) w K = K (.int .u64 (a / 4294967296)) w := pN_shrn 32 32 4294967296 rfl (by decide) (by decide)
theorem pA_shr_79_u64_32 (xo yo : Operand) (a : Int) : pA Tryd.prog (oBin .shr 79 xo yo (.int .u64 a) (.int .u64 32)) J = J (.int .u64 (a / 4294967296)) := pA_shrn 32 32 4294967296 rfl (by decide) (by decide)
theorem pN_shr_79_u64_8 (xo yo : Operand) (a : Int) : pN Tryd.prog (oBin .shr 79 xo yo (.int .u64 a) (.int .u64 8)) w K = K (.int .u64 (a / 256)) w := pN_shrn 8 8 256 rfl (by decide) (by decide)
theorem pA_shr_79_u64_8 (xo yo : Operand) (a : Int) : pA Tryd.prog (oBin .shr 79 xo yo (.int .u64 a) (.int .u64 8)) J = J (.int .u64 (a / 256)) := pA_shrn 8 8 256 rfl (by decide) (by decide)
theorem pN_and_3_1 (xo yo : Operand) (a : Int) : pN Tryd.prog (oBin .and 3 xo yo (.int .i64 a) (.int .i64 1)) w K = K (.int .i64 (a % 2)) w := pN_andn 1 1 2 rfl rfl (by decide) (wrap_i64 (by omega))
theorem pA_and_3_1 (xo yo : Operand) (a : Int) : pA Tryd.prog (oBin .and 3 xo yo (.int .i64 a) (.int .i64 1)) J = J (.int .i64 (a % 2)) := pA_andn 1 1 2 rfl rfl (by decide) (wrap_i64 (by omega))
theorem pN_and_3_15 (xo yo : Operand) (a : Int) : pN Tryd.prog (oBin .and 3 xo yo (.int .i64 a) (.int .i64 15)) w K = K (.int .i64 (a % 16)) w := pN_andn 4 15 16 rfl rfl (by decide) (wrap_i64 (by omega))
theorem pA_and_3_15 (xo yo : Operand) (a : Int) : pA Tryd.prog (oBin .and 3 xo yo (.int .i64 a) (.int .i64 15)) J = J (.int .i64 (a % 16)) := pA_andn 4 15 16 rfl rfl (by decide) (wrap_i64 (by omega))
theorem pN_and_78_1 (xo yo : Operand) (a : Int) : pN Tryd.prog (oBin .and 78 xo yo (.int .u32 a) (.int .u32 1)) w K = K (.int .u32 (a % 2)) w := pN_andn 1 1 2 rfl rfl (by decide) (w_u32 (by omega))
theorem pA_and_78_1 (xo yo : Operand) (a : Int) : pA Tryd.prog (oBin .and 78 xo yo (.int .u32 a) (.int .u32 1)) J = J (.int .u32 (a % 2)) := pA_andn 1 1 2 rfl rfl (by decide) (w_u32 (by omega))
theorem pN_and_79_16777215 (xo yo : Operand) (a : Int) : pN Tryd.prog (oBin .and 79 xo yo (.int .u64 a) (.int .u64 16777215)) w K = K (.int .u64 (a % 16777216)) w := pN_andn 24 16777215 16777216 rfl rfl (by decide) (w_u64 (by omega))
theorem pA_and_79_16777215 (xo yo : Operand) (a : Int) : pA Tryd.prog (oBin .and 79 xo yo (.int .u64 a) (.int .u64 16777215)) J = J (.int .u64 (a % 16777216)) := pA_andn 24 16777215 16777216 rfl rfl (by decide) (w_u64 (by omega))
theorem pN_and_110_1 (xo yo : Operand) (a : Int) : pN Tryd.prog (oBin .and 110 xo yo (.int .u64 a) (.int .u64 1)) w K = K (.int .u64 (a % 2)) w := pN_andn 1 1 2 rfl rfl (by decide) (w_u64 (by omega))
theorem pA_and_110_1 (xo yo : Operand) (a : Int) : pA Tryd.prog (oBin .and 110 xo yo (.int .u64 a) (.int .u64 1)) J = J (.int .u64 (a % 2)) := pA_andn 1 1 2 rfl rfl (by decide) (w_u64 (by omega))
theorem run_bld_23_0 (x0 : Int) (w : World) : (oBuild 23 [(0, .int .i64 x0)]).run Tryd.prog w = .ok (.value (.agg #[(.int .i64 x0), (.int .i64 0), (.int .i64 0)])) w := by kernel_rfl
theorem pN_bld_23_0 (x0 : Int) : pN Tryd.prog (oBuild 23 [(0, .int .i64 x0)]) w K = K (.agg #[(.int .i64 x0), (.int .i64 0), (.int .i64 0)]) w := by rw [pN_def, run_bld_23_0, rN_value]
theorem run_bld_23_0_1 (x0 : Int) (x1 : Int) (w : World) : (oBuild 23 [(0, .int .i64 x0), (1, .int .i64 x1)]).run Tryd.prog w = .ok (.value (.agg #[(.int .i64 x0), (.int .i64 x1), (.int .i64 0)])) w := by kernel_rfl
theorem pN_bld_23_0_1 (x0 : Int) (x1 : Int) : pN Tryd.prog (oBuild 23 [(0, .int .i64 x0), (1, .int .i64 x1)]) w K = K (.agg #[(.int .i64 x0), (.int .i64 x1), (.int .i64 0)]) w := by rw [pN_def, run_bld_23_0_1, rN_value]
theorem run_bld_23_0_2 (x0 : Int) (x2 : Int) (w : World) : (oBuild 23 [(0, .int .i64 x0), (2, .int .i64 x2)]).run Tryd.prog w = .ok (.value (.agg #[(.int .i64 x0), (.int .i64 0), (.int .i64 x2)])) w := by kernel_rfl
theorem pN_bld_23_0_2 (x0 : Int) (x2 : Int) : pN Tryd.prog (oBuild 23 [(0, .int .i64 x0), (2, .int .i64 x2)]) w K = K (.agg #[(.int .i64 x0), (.int .i64 0), (.int .i64 x2)]) w := by rw [pN_def, run_bld_23_0_2, rN_value]
theorem run_bld_34_0_1 (x0 : Int) (x1 : UInt8) (w : World) : (oBuild 34 [(0, .int .i64 x0), (1, bv x1)]).run Tryd.prog w = .ok (.value (.agg #[(.int .i64 x0), (bv x1), (.int .i64 0), (.int .i64 0)])) w := by kernel_rfl
theorem pN_bld_34_0_1 (x0 : Int) (x1 : UInt8) : pN Tryd.prog (oBuild 34 [(0, .int .i64 x0), (1, bv x1)]) w K = K (.agg #[(.int .i64 x0), (bv x1), (.int .i64 0), (.int .i64 0)]) w := by rw [pN_def, run_bld_34_0_1, rN_value]
theorem run_bld_34_0_2_3 (x0 : Int) (x2 : Int) (x3 : Int) (w : World) : (oBuild 34 [(0, .int .i64 x0), (2, .int .i64 x2), (3, .int .i64 x3)]).run Tryd.prog w = .ok (.value (.agg #[(.int .i64 x0), (bv 0), (.int .i64 x2), (.int .i64 x3)])) w := by kernel_rfl
theorem pN_bld_34_0_2_3 (x0 : Int) (x2 : Int) (x3 : Int) : pN Tryd.prog (oBuild 34 [(0, .int .i64 x0), (2, .int .i64 x2), (3, .int .i64 x3)]) w K = K (.agg #[(.int .i64 x0), (bv 0), (.int .i64 x2), (.int .i64 x3)]) w := by rw [pN_def, run_bld_34_0_2_3, rN_value]
theorem run_bld_54_0_1_2 (x0 : Option Addr) (x1 : Option Addr) (x2 : Option Addr) (w : World) : (oBuild 54 [(0, .pointer x0), (1, .pointer x1), (2, .pointer x2)]).run Tryd.prog w = .ok (.value (.agg #[(.pointer x0), (.pointer x1), (.pointer x2)])) w := by kernel_rfl
theorem pN_bld_54_0_1_2 (x0 : Option Addr) (x1 : Option Addr) (x2 : Option Addr) : pN Tryd.prog (oBuild 54 [(0, .pointer x0), (1, .pointer x1), (2, .pointer x2)]) w K = K (.agg #[(.pointer x0), (.pointer x1), (.pointer x2)]) w := by rw [pN_def, run_bld_54_0_1_2, rN_value]
theorem run_bld_57_0 (x0 : Option Addr) (w : World) : (oBuild 57 [(0, .pointer x0)]).run Tryd.prog w = .ok (.value (.agg #[(.pointer x0)])) w := by kernel_rfl
theorem pN_bld_57_0 (x0 : Option Addr) : pN Tryd.prog (oBuild 57 [(0, .pointer x0)]) w K = K (.agg #[(.pointer x0)]) w := by rw [pN_def, run_bld_57_0, rN_value]
theorem run_bld_60_  (w : World) : (oBuild 60 []).run Tryd.prog w = .ok (.value (.agg #[(.int .i64 0), (.int .i64 0), (.int .i64 0), (.int .i64 0), (.int .i64 0)])) w := by kernel_rfl
theorem pN_bld_60_  : pN Tryd.prog (oBuild 60 []) w K = K (.agg #[(.int .i64 0), (.int .i64 0), (.int .i64 0), (.int .i64 0), (.int .i64 0)]) w := by rw [pN_def, run_bld_60_, rN_value]
theorem run_bld_60_1 (x1_0 : Int) (x1_1 : Int) (x1_2 : Int) (x1_3 : Int) (w : World) : (oBuild 60 [(1, .agg #[.int .i64 x1_0, .int .i64 x1_1, .int .i64 x1_2, .int .i64 x1_3])]).run Tryd.prog w = .ok (.value (.agg #[(.int .i64 0), (.int .i64 x1_0), (.int .i64 x1_1), (.int .i64 x1_2), (.int .i64 x1_3)])) w := by kernel_rfl
theorem pN_bld_60_1 (x1_0 : Int) (x1_1 : Int) (x1_2 : Int) (x1_3 : Int) : pN Tryd.prog (oBuild 60 [(1, .agg #[.int .i64 x1_0, .int .i64 x1_1, .int .i64 x1_2, .int .i64 x1_3])]) w K = K (.agg #[(.int .i64 0), (.int .i64 x1_0), (.int .i64 x1_1), (.int .i64 x1_2), (.int .i64 x1_3)]) w := by rw [pN_def, run_bld_60_1, rN_value]
theorem run_bld_65_0_1_2_3 (x0 : Option Addr) (x1 : Option Addr) (x2 : Option Addr) (x3 : Option Addr) (w : World) : (oBuild 65 [(0, .pointer x0), (1, .pointer x1), (2, .pointer x2), (3, .pointer x3)]).run Tryd.prog w = .ok (.value (.agg #[(.pointer x0), (.pointer x1), (.pointer x2), (.pointer x3)])) w := by kernel_rfl
theorem pN_bld_65_0_1_2_3 (x0 : Option Addr) (x1 : Option Addr) (x2 : Option Addr) (x3 : Option Addr) : pN Tryd.prog (oBuild 65 [(0, .pointer x0), (1, .pointer x1), (2, .pointer x2), (3, .pointer x3)]) w K = K (.agg #[(.pointer x0), (.pointer x1), (.pointer x2), (.pointer x3)]) w := by rw [pN_def, run_bld_65_0_1_2_3, rN_value]
theorem run_bld_67_0_1_2_3_4_5_6_7_8_9_10_11_12_13 (x0_0 : Int) (x0_1 : Int) (x0_2 : Int) (x1_0 : Int) (x1_1_0 : Int) (x1_1_1 : Int) (x1_1_2 : Int) (x1_1_3 : Int) (x2 : Option Addr) (x3 : Option Addr) (x4 : Option Addr) (x5 : Option Addr) (x6 : Option Addr) (x7 : Option Addr) (x8 : Option Addr) (x9_0 : Option Addr) (x9_1 : Option Addr) (x9_2 : Option Addr) (x9_3 : Option Addr) (x10_0 : Option Addr) (x10_1 : Option Addr) (x10_2 : Option Addr) (x10_3 : Option Addr) (x11 : Option Addr) (x12 : Option Addr) (x13 : Option Addr) (w : World) : (oBuild 67 [(0, .agg #[.int .i64 x0_0, .int .i64 x0_1, .int .i64 x0_2]), (1, .agg #[.int .i64 x1_0, .int .i64 x1_1_0, .int .i64 x1_1_1, .int .i64 x1_1_2, .int .i64 x1_1_3]), (2, .pointer x2), (3, .pointer x3), (4, .pointer x4), (5, .pointer x5), (6, .pointer x6), (7, .pointer x7), (8, .pointer x8), (9, .agg #[.pointer x9_0, .pointer x9_1, .pointer x9_2, .pointer x9_3]), (10, .agg #[.pointer x10_0, .pointer x10_1, .pointer x10_2, .pointer x10_3]), (11, .pointer x11), (12, .pointer x12), (13, .pointer x13)]).run Tryd.prog w = .ok (.value (.agg #[(.int .i64 x0_0), (.int .i64 x0_1), (.int .i64 x0_2), (.int .i64 x1_0), (.int .i64 x1_1_0), (.int .i64 x1_1_1), (.int .i64 x1_1_2), (.int .i64 x1_1_3), (.pointer x2), (.pointer x3), (.pointer x4), (.pointer x5), (.pointer x6), (.pointer x7), (.pointer x8), (.pointer x9_0), (.pointer x9_1), (.pointer x9_2), (.pointer x9_3), (.pointer x10_0), (.pointer x10_1), (.pointer x10_2), (.pointer x10_3), (.pointer x11), (.pointer x12), (.pointer x13)])) w := by kernel_rfl
theorem pN_bld_67_0_1_2_3_4_5_6_7_8_9_10_11_12_13 (x0_0 : Int) (x0_1 : Int) (x0_2 : Int) (x1_0 : Int) (x1_1_0 : Int) (x1_1_1 : Int) (x1_1_2 : Int) (x1_1_3 : Int) (x2 : Option Addr) (x3 : Option Addr) (x4 : Option Addr) (x5 : Option Addr) (x6 : Option Addr) (x7 : Option Addr) (x8 : Option Addr) (x9_0 : Option Addr) (x9_1 : Option Addr) (x9_2 : Option Addr) (x9_3 : Option Addr) (x10_0 : Option Addr) (x10_1 : Option Addr) (x10_2 : Option Addr) (x10_3 : Option Addr) (x11 : Option Addr) (x12 : Option Addr) (x13 : Option Addr) : pN Tryd.prog (oBuild 67 [(0, .agg #[.int .i64 x0_0, .int .i64 x0_1, .int .i64 x0_2]), (1, .agg #[.int .i64 x1_0, .int .i64 x1_1_0, .int .i64 x1_1_1, .int .i64 x1_1_2, .int .i64 x1_1_3]), (2, .pointer x2), (3, .pointer x3), (4, .pointer x4), (5, .pointer x5), (6, .pointer x6), (7, .pointer x7), (8, .pointer x8), (9, .agg #[.pointer x9_0, .pointer x9_1, .pointer x9_2, .pointer x9_3]), (10, .agg #[.pointer x10_0, .pointer x10_1, .pointer x10_2, .pointer x10_3]), (11, .pointer x11), (12, .pointer x12), (13, .pointer x13)]) w K = K (.agg #[(.int .i64 x0_0), (.int .i64 x0_1), (.int .i64 x0_2), (.int .i64 x1_0), (.int .i64 x1_1_0), (.int .i64 x1_1_1), (.int .i64 x1_1_2), (.int .i64 x1_1_3), (.pointer x2), (.pointer x3), (.pointer x4), (.pointer x5), (.pointer x6), (.pointer x7), (.pointer x8), (.pointer x9_0), (.pointer x9_1), (.pointer x9_2), (.pointer x9_3), (.pointer x10_0), (.pointer x10_1), (.pointer x10_2), (.pointer x10_3), (.pointer x11), (.pointer x12), (.pointer x13)]) w := by rw [pN_def, run_bld_67_0_1_2_3_4_5_6_7_8_9_10_11_12_13, rN_value]
theorem run_bld_74_0 (x0 : Int) (w : World) : (oBuild 74 [(0, .int .i64 x0)]).run Tryd.prog w = .ok (.value (.agg #[(.int .i64 x0), (.slice none 0 0), (.int .i64 0), (.int .i64 0)])) w := by kernel_rfl
theorem pN_bld_74_0 (x0 : Int) : pN Tryd.prog (oBuild 74 [(0, .int .i64 x0)]) w K = K (.agg #[(.int .i64 x0), (.slice none 0 0), (.int .i64 0), (.int .i64 0)]) w := by rw [pN_def, run_bld_74_0, rN_value]
theorem run_bld_81_1 (x1 : Int) (w : World) : (oBuild 81 [(1, .int .u32 x1)]).run Tryd.prog w = .ok (.value (.agg #[(.int .u64 0), (.int .u32 x1), (bv 0), (.int .i64 0), (.slice none 0 0)])) w := by kernel_rfl
theorem pN_bld_81_1 (x1 : Int) : pN Tryd.prog (oBuild 81 [(1, .int .u32 x1)]) w K = K (.agg #[(.int .u64 0), (.int .u32 x1), (bv 0), (.int .i64 0), (.slice none 0 0)]) w := by rw [pN_def, run_bld_81_1, rN_value]
theorem run_bld_112_0 (x0 : Option Addr) (x0n x0c : Nat) (w : World) : (oBuild 112 [(0, .slice x0 x0n x0c)]).run Tryd.prog w = .ok (.value (.agg #[(.slice x0 x0n x0c)])) w := by kernel_rfl
theorem pN_bld_112_0 (x0 : Option Addr) (x0n x0c : Nat) : pN Tryd.prog (oBuild 112 [(0, .slice x0 x0n x0c)]) w K = K (.agg #[(.slice x0 x0n x0c)]) w := by rw [pN_def, run_bld_112_0, rN_value]
theorem run_bld_58_0_1_2_3 (x0 : Int) (x1 : Int) (x2 : Int) (x3 : Int) (w : World) : (oBuild 58 [(0, .int .i64 x0), (1, .int .i64 x1), (2, .int .i64 x2), (3, .int .i64 x3)]).run Tryd.prog w = .ok (.value (.agg #[(.int .i64 x0), (.int .i64 x1), (.int .i64 x2), (.int .i64 x3)])) w := by kernel_rfl
theorem pN_bld_58_0_1_2_3 (x0 : Int) (x1 : Int) (x2 : Int) (x3 : Int) : pN Tryd.prog (oBuild 58 [(0, .int .i64 x0), (1, .int .i64 x1), (2, .int .i64 x2), (3, .int .i64 x3)]) w K = K (.agg #[(.int .i64 x0), (.int .i64 x1), (.int .i64 x2), (.int .i64 x3)]) w := by rw [pN_def, run_bld_58_0_1_2_3, rN_value]
end
attribute [go_sem] pN_shl_78_u64_8 pA_shl_78_u64_8 pN_shl_79_u64_8 pA_shl_79_u64_8 pN_shr_3_u64_4 pA_shr_3_u64_4 pN_shr_3_u64_5 pA_shr_3_u64_5 pN_shr_78_u64_11 pA_shr_78_u64_11 pN_shr_78_u64_16 pA_shr_78_u64_16 pN_shr_78_u64_8 pA_shr_78_u64_8 pN_shr_79_u64_16 pA_shr_79_u64_16 pN_shr_79_u64_24 pA_shr_79_u64_24 pN_shr_79_u64_32 pA_shr_79_u64_32 pN_shr_79_u64_8 pA_shr_79_u64_8 pN_and_3_1 pA_and_3_1 pN_and_3_15 pA_and_3_15 pN_and_78_1 pA_and_78_1 pN_and_79_16777215 pA_and_79_16777215 pN_and_110_1 pA_and_110_1 pN_bld_23_0 pN_bld_23_0_1 pN_bld_23_0_2 pN_bld_34_0_1 pN_bld_34_0_2_3 pN_bld_54_0_1_2 pN_bld_57_0 pN_bld_60_ pN_bld_60_1 pN_bld_65_0_1_2_3 pN_bld_67_0_1_2_3_4_5_6_7_8_9_10_11_12_13 pN_bld_74_0 pN_bld_81_1 pN_bld_112_0 pN_bld_58_0_1_2_3
theorem cells_3 : Tryd.prog.cellsOf 3 = 1 := by kernel_rfl
theorem bytes_3 : Tryd.prog.bytesOf 3 = 8 := by kernel_rfl
theorem cells_5 : Tryd.prog.cellsOf 5 = 1 := by kernel_rfl
theorem bytes_5 : Tryd.prog.bytesOf 5 = 1 := by kernel_rfl
theorem cells_23 : Tryd.prog.cellsOf 23 = 3 := by kernel_rfl
theorem bytes_23 : Tryd.prog.bytesOf 23 = 24 := by kernel_rfl
theorem cells_25 : Tryd.prog.cellsOf 25 = 4 := by kernel_rfl
theorem bytes_25 : Tryd.prog.bytesOf 25 = 32 := by kernel_rfl
theorem cells_26 : Tryd.prog.cellsOf 26 = 1 := by kernel_rfl
theorem bytes_26 : Tryd.prog.bytesOf 26 = 24 := by kernel_rfl
theorem cells_28 : Tryd.prog.cellsOf 28 = 1 := by kernel_rfl
theorem bytes_28 : Tryd.prog.bytesOf 28 = 8 := by kernel_rfl
theorem cells_34 : Tryd.prog.cellsOf 34 = 4 := by kernel_rfl
theorem bytes_34 : Tryd.prog.bytesOf 34 = 32 := by kernel_rfl
theorem piece (cs : List Value) (o s : Nat) : cs.drop o = (cs.drop o).take s ++ cs.drop (o + s) := by rw [← List.drop_drop, List.take_append_drop]
def T_api_Props.ok (W : World) (b : T_api_Props) (k : Nat) : Prop := (-9223372036854775808 ≤ b.LC ∧ b.LC < 9223372036854775808) ∧ (-9223372036854775808 ≤ b.LP ∧ b.LP < 9223372036854775808) ∧ (-9223372036854775808 ≤ b.PB ∧ b.PB < 9223372036854775808)
theorem opn_api_Props (W : World) : Opn Tryd.prog W 23 T_api_Props.enc (T_api_Props.ok W) := by
  refine ⟨fun {H} en fuel cs x hx hw => ?_⟩
  obtain ⟨xs, n, _, rfl, hl, hlen, hf⟩ := DataW.trod_struct Tryd.underlying23 hx
  have hlen : xs.length = 3 := hlen
  rw [cells_23] at hl
  obtain ⟨b0, e0, k0, m0, o0⟩ := opn_field Tryd.underlying23 hw hf 0 3 0 1 ⟨_, rfl, rfl, rfl⟩ cells_3 (by omega) (opn_i64 Tryd.underlying3)
  have q0 := piece cs 0 1
  rw [e0] at q0
  obtain ⟨b1, e1, k1, m1, o1⟩ := opn_field Tryd.underlying23 hw hf 1 3 1 1 ⟨_, rfl, rfl, rfl⟩ cells_3 (by omega) (opn_i64 Tryd.underlying3)
  have q1 := piece cs 1 1
  rw [e1] at q1
  obtain ⟨b2, e2, k2, m2, o2⟩ := opn_field Tryd.underlying23 hw hf 2 3 2 1 ⟨_, rfl, rfl, rfl⟩ cells_3 (by omega) (opn_i64 Tryd.underlying3)
  have q2 := piece cs 2 1
  rw [e2] at q2
  have hz : cs.drop 3 = [] := List.drop_of_length_le (by omega)
  refine ⟨⟨b0, b1, b2⟩, ?_, ⟨o0, o1, o2⟩⟩
  have q : cs.drop 0 = _ := q0
  simp only [Nat.zero_add, Nat.reduceAdd, hz, List.drop_zero] at q q1 q2
  rw [q1] at q
  rw [q2] at q
  exact q
def T_pithlaw14_Setup.ok (W : World) (b : T_pithlaw14_Setup) (k : Nat) : Prop := (∃ k', k' ≤ k ∧ b.Props.ok W k') ∧ (-9223372036854775808 ≤ b.Dict ∧ b.Dict < 9223372036854775808)
theorem opn_pithlaw14_Setup (W : World) : Opn Tryd.prog W 25 T_pithlaw14_Setup.enc (T_pithlaw14_Setup.ok W) := by
  refine ⟨fun {H} en fuel cs x hx hw => ?_⟩
  obtain ⟨xs, n, _, rfl, hl, hlen, hf⟩ := DataW.trod_struct Tryd.underlying25 hx
  have hlen : xs.length = 2 := hlen
  rw [cells_25] at hl
  obtain ⟨b0, e0, k0, m0, o0⟩ := opn_field Tryd.underlying25 hw hf 0 23 0 3 ⟨_, rfl, rfl, rfl⟩ cells_23 (by omega) (opn_api_Props W)
  have q0 := piece cs 0 3
  rw [e0] at q0
  obtain ⟨b1, e1, k1, m1, o1⟩ := opn_field Tryd.underlying25 hw hf 1 3 3 1 ⟨_, rfl, rfl, rfl⟩ cells_3 (by omega) (opn_i64 Tryd.underlying3)
  have q1 := piece cs 3 1
  rw [e1] at q1
  have hz : cs.drop 4 = [] := List.drop_of_length_le (by omega)
  refine ⟨⟨b0, b1⟩, ?_, ⟨⟨_, m0, o0⟩, o1⟩⟩
  have q : cs.drop 0 = _ := q0
  simp only [Nat.zero_add, Nat.reduceAdd, hz, List.drop_zero] at q q1
  rw [q1] at q
  exact q
def T_api_Symbol.ok (W : World) (b : T_api_Symbol) (k : Nat) : Prop := (-9223372036854775808 ≤ b.Kind ∧ b.Kind < 9223372036854775808) ∧ True ∧ (-9223372036854775808 ≤ b.Len ∧ b.Len < 9223372036854775808) ∧ (-9223372036854775808 ≤ b.Dist ∧ b.Dist < 9223372036854775808)
theorem opn_api_Symbol (W : World) : Opn Tryd.prog W 34 T_api_Symbol.enc (T_api_Symbol.ok W) := by
  refine ⟨fun {H} en fuel cs x hx hw => ?_⟩
  obtain ⟨xs, n, _, rfl, hl, hlen, hf⟩ := DataW.trod_struct Tryd.underlying34 hx
  have hlen : xs.length = 4 := hlen
  rw [cells_34] at hl
  obtain ⟨b0, e0, k0, m0, o0⟩ := opn_field Tryd.underlying34 hw hf 0 3 0 1 ⟨_, rfl, rfl, rfl⟩ cells_3 (by omega) (opn_i64 Tryd.underlying3)
  have q0 := piece cs 0 1
  rw [e0] at q0
  obtain ⟨b1, e1, k1, m1, o1⟩ := opn_field Tryd.underlying34 hw hf 1 5 1 1 ⟨_, rfl, rfl, rfl⟩ cells_5 (by omega) (opn_u8 Tryd.underlying5)
  have q1 := piece cs 1 1
  rw [e1] at q1
  obtain ⟨b2, e2, k2, m2, o2⟩ := opn_field Tryd.underlying34 hw hf 2 3 2 1 ⟨_, rfl, rfl, rfl⟩ cells_3 (by omega) (opn_i64 Tryd.underlying3)
  have q2 := piece cs 2 1
  rw [e2] at q2
  obtain ⟨b3, e3, k3, m3, o3⟩ := opn_field Tryd.underlying34 hw hf 3 3 3 1 ⟨_, rfl, rfl, rfl⟩ cells_3 (by omega) (opn_i64 Tryd.underlying3)
  have q3 := piece cs 3 1
  rw [e3] at q3
  have hz : cs.drop 4 = [] := List.drop_of_length_le (by omega)
  refine ⟨⟨b0, b1, b2, b3⟩, ?_, ⟨o0, o1, o2, o3⟩⟩
  have q : cs.drop 0 = _ := q0
  simp only [Nat.zero_add, Nat.reduceAdd, hz, List.drop_zero] at q q1 q2 q3
  rw [q1] at q
  rw [q2] at q
  rw [q3] at q
  exact q
end Go.Proofs.YtbgnnjfpiblkmaaDoor
