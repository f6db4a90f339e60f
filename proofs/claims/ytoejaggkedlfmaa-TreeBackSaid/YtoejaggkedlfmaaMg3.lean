/-
  Texts of one proof, one behind the other: Facts, LfPithlaw09.
-/
import Derived.Test.YtoejaggkedlfmaaRows
import Derived.Test.YtoejaggkedlfmaaMg2
namespace Go.Proofs.Ytoejaggkedlfmaa
open Go
set_option linter.unusedSimpArgs false
set_option linter.unnecessarySimpa false
set_option linter.unusedSectionVars false
set_option linter.unusedVariables false

theorem mixed : Try.prog.follows .mixedOrders = true := by kernel_rfl
section
variable [Pan] {w : World} {K : Value → World → Prop} {J : Value → Prop}

theorem un_int : Try.prog.underlying 3 = some (.int .i64) := Try.underlying3
theorem na_int (w : World) : (isAgg 3).run Try.prog w = .ok false w := Try.isAgg3 w
theorem sz_int (w : World) : (sizeOf 3).run Try.prog w = .ok 1 w := Try.sizeOf3 w
theorem zv_int (w : World) : (zeroValue 3).run Try.prog w = .ok (.int .i64 0) w := Try.zeroValue3 w
theorem un_bool : Try.prog.underlying 4 = some (.bool) := Try.underlying4
theorem na_bool (w : World) : (isAgg 4).run Try.prog w = .ok false w := Try.isAgg4 w
theorem sz_bool (w : World) : (sizeOf 4).run Try.prog w = .ok 1 w := Try.sizeOf4 w
theorem zv_bool (w : World) : (zeroValue 4).run Try.prog w = .ok (.bool false) w := Try.zeroValue4 w
theorem un_uint8 : Try.prog.underlying 5 = some (.int .u8) := Try.underlying5
theorem na_uint8 (w : World) : (isAgg 5).run Try.prog w = .ok false w := Try.isAgg5 w
theorem sz_uint8 (w : World) : (sizeOf 5).run Try.prog w = .ok 1 w := Try.sizeOf5 w
theorem zv_uint8 (w : World) : (zeroValue 5).run Try.prog w = .ok (.int .u8 0) w := Try.zeroValue5 w
theorem un_string : Try.prog.underlying 9 = some (.string) := Try.underlying9
theorem na_string (w : World) : (isAgg 9).run Try.prog w = .ok false w := Try.isAgg9 w
theorem sz_string (w : World) : (sizeOf 9).run Try.prog w = .ok 1 w := Try.sizeOf9 w
theorem zv_string (w : World) : (zeroValue 9).run Try.prog w = .ok (.string ⟨#[]⟩) w := Try.zeroValue9 w
theorem un_sl_uint32 : Try.prog.underlying 22 = some (.slice 26) := Try.underlying22
theorem na_sl_uint32 (w : World) : (isAgg 22).run Try.prog w = .ok false w := Try.isAgg22 w
theorem sz_sl_uint32 (w : World) : (sizeOf 22).run Try.prog w = .ok 1 w := Try.sizeOf22 w
theorem zv_sl_uint32 (w : World) : (zeroValue 22).run Try.prog w = .ok (.slice none 0 0) w := Try.zeroValue22 w
theorem un_sl_int : Try.prog.underlying 23 = some (.slice 3) := Try.underlying23
theorem na_sl_int (w : World) : (isAgg 23).run Try.prog w = .ok false w := Try.isAgg23 w
theorem sz_sl_int (w : World) : (sizeOf 23).run Try.prog w = .ok 1 w := Try.sizeOf23 w
theorem zv_sl_int (w : World) : (zeroValue 23).run Try.prog w = .ok (.slice none 0 0) w := Try.zeroValue23 w
theorem un_p_rcenc_Encoder : Try.prog.underlying 24 = some (.pointer 133) := Try.underlying24
theorem na_p_rcenc_Encoder (w : World) : (isAgg 24).run Try.prog w = .ok false w := Try.isAgg24 w
theorem sz_p_rcenc_Encoder (w : World) : (sizeOf 24).run Try.prog w = .ok 1 w := Try.sizeOf24 w
theorem zv_p_rcenc_Encoder (w : World) : (zeroValue 24).run Try.prog w = .ok (.pointer none) w := Try.zeroValue24 w
theorem un_uint32 : Try.prog.underlying 26 = some (.int .u32) := Try.underlying26
theorem na_uint32 (w : World) : (isAgg 26).run Try.prog w = .ok false w := Try.isAgg26 w
theorem sz_uint32 (w : World) : (sizeOf 26).run Try.prog w = .ok 1 w := Try.sizeOf26 w
theorem zv_uint32 (w : World) : (zeroValue 26).run Try.prog w = .ok (.int .u32 0) w := Try.zeroValue26 w
theorem un_api_Errno : Try.prog.underlying 27 = some (.int .i64) := Try.underlying27
theorem na_api_Errno (w : World) : (isAgg 27).run Try.prog w = .ok false w := Try.isAgg27 w
theorem sz_api_Errno (w : World) : (sizeOf 27).run Try.prog w = .ok 1 w := Try.sizeOf27 w
theorem zv_api_Errno (w : World) : (zeroValue 27).run Try.prog w = .ok (.int .i64 0) w := Try.zeroValue27 w
theorem un_sl_uint8 : Try.prog.underlying 29 = some (.slice 5) := Try.underlying29
theorem na_sl_uint8 (w : World) : (isAgg 29).run Try.prog w = .ok false w := Try.isAgg29 w
theorem sz_sl_uint8 (w : World) : (sizeOf 29).run Try.prog w = .ok 1 w := Try.sizeOf29 w
theorem zv_sl_uint8 (w : World) : (zeroValue 29).run Try.prog w = .ok (.slice none 0 0) w := Try.zeroValue29 w
theorem un_sl_pithlaw07_Bit : Try.prog.underlying 33 = some (.slice 38) := Try.underlying33
theorem na_sl_pithlaw07_Bit (w : World) : (isAgg 33).run Try.prog w = .ok false w := Try.isAgg33 w
theorem sz_sl_pithlaw07_Bit (w : World) : (sizeOf 33).run Try.prog w = .ok 1 w := Try.sizeOf33 w
theorem zv_sl_pithlaw07_Bit (w : World) : (zeroValue 33).run Try.prog w = .ok (.slice none 0 0) w := Try.zeroValue33 w
theorem un_p_prob_Set : Try.prog.underlying 34 = some (.pointer 137) := Try.underlying34
theorem na_p_prob_Set (w : World) : (isAgg 34).run Try.prog w = .ok false w := Try.isAgg34 w
theorem sz_p_prob_Set (w : World) : (sizeOf 34).run Try.prog w = .ok 1 w := Try.sizeOf34 w
theorem zv_p_prob_Set (w : World) : (zeroValue 34).run Try.prog w = .ok (.pointer none) w := Try.zeroValue34 w
theorem ag_pithlaw07_Bit (w : World) : (isAgg 38).run Try.prog w = .ok true w := Try.isAgg38 w
theorem sz_pithlaw07_Bit (w : World) : (sizeOf 38).run Try.prog w = .ok 2 w := Try.sizeOf38 w
theorem zv_pithlaw07_Bit (w : World) : (zeroValue 38).run Try.prog w = .ok (.agg #[(.int .i64 0), (.bool false)]) w := Try.zeroValue38 w
theorem un_arr4_int : Try.prog.underlying 43 = some (.array 4 3) := Try.underlying43
theorem ag_arr4_int (w : World) : (isAgg 43).run Try.prog w = .ok true w := Try.isAgg43 w
theorem sz_arr4_int (w : World) : (sizeOf 43).run Try.prog w = .ok 4 w := Try.sizeOf43 w
theorem zv_arr4_int (w : World) : (zeroValue 43).run Try.prog w = .ok (.agg #[(.int .i64 0), (.int .i64 0), (.int .i64 0), (.int .i64 0)]) w := Try.zeroValue43 w
theorem un_sl_pithlaw07_Op : Try.prog.underlying 49 = some (.slice 64) := Try.underlying49
theorem na_sl_pithlaw07_Op (w : World) : (isAgg 49).run Try.prog w = .ok false w := Try.isAgg49 w
theorem sz_sl_pithlaw07_Op (w : World) : (sizeOf 49).run Try.prog w = .ok 1 w := Try.sizeOf49 w
theorem zv_sl_pithlaw07_Op (w : World) : (zeroValue 49).run Try.prog w = .ok (.slice none 0 0) w := Try.zeroValue49 w
theorem un_p_pithref06_Set : Try.prog.underlying 51 = some (.pointer 145) := Try.underlying51
theorem na_p_pithref06_Set (w : World) : (isAgg 51).run Try.prog w = .ok false w := Try.isAgg51 w
theorem sz_p_pithref06_Set (w : World) : (sizeOf 51).run Try.prog w = .ok 1 w := Try.sizeOf51 w
theorem zv_p_pithref06_Set (w : World) : (zeroValue 51).run Try.prog w = .ok (.pointer none) w := Try.zeroValue51 w
theorem ag_pithlaw07_Sets (w : World) : (isAgg 54).run Try.prog w = .ok true w := Try.isAgg54 w
theorem sz_pithlaw07_Sets (w : World) : (sizeOf 54).run Try.prog w = .ok 4 w := Try.sizeOf54 w
theorem zv_pithlaw07_Sets (w : World) : (zeroValue 54).run Try.prog w = .ok (.agg #[(.pointer none), (.pointer none), (.pointer none), (.pointer none)]) w := Try.zeroValue54 w
theorem un_p_pithref07_Encoder : Try.prog.underlying 57 = some (.pointer 139) := Try.underlying57
theorem na_p_pithref07_Encoder (w : World) : (isAgg 57).run Try.prog w = .ok false w := Try.isAgg57 w
theorem sz_p_pithref07_Encoder (w : World) : (sizeOf 57).run Try.prog w = .ok 1 w := Try.sizeOf57 w
theorem zv_p_pithref07_Encoder (w : World) : (zeroValue 57).run Try.prog w = .ok (.pointer none) w := Try.zeroValue57 w
theorem ag_pithlaw07_Pair (w : World) : (isAgg 60).run Try.prog w = .ok true w := Try.isAgg60 w
theorem sz_pithlaw07_Pair (w : World) : (sizeOf 60).run Try.prog w = .ok 2 w := Try.sizeOf60 w
theorem zv_pithlaw07_Pair (w : World) : (zeroValue 60).run Try.prog w = .ok (.agg #[(.pointer none), (.pointer none)]) w := Try.zeroValue60 w
theorem un_sl_pithlaw07_Pair : Try.prog.underlying 61 = some (.slice 60) := Try.underlying61
theorem na_sl_pithlaw07_Pair (w : World) : (isAgg 61).run Try.prog w = .ok false w := Try.isAgg61 w
theorem sz_sl_pithlaw07_Pair (w : World) : (sizeOf 61).run Try.prog w = .ok 1 w := Try.sizeOf61 w
theorem zv_sl_pithlaw07_Pair (w : World) : (zeroValue 61).run Try.prog w = .ok (.slice none 0 0) w := Try.zeroValue61 w
theorem un_sl_pithlaw07_Held : Try.prog.underlying 62 = some (.slice 68) := Try.underlying62
theorem na_sl_pithlaw07_Held (w : World) : (isAgg 62).run Try.prog w = .ok false w := Try.isAgg62 w
theorem sz_sl_pithlaw07_Held (w : World) : (sizeOf 62).run Try.prog w = .ok 1 w := Try.sizeOf62 w
theorem zv_sl_pithlaw07_Held (w : World) : (zeroValue 62).run Try.prog w = .ok (.slice none 0 0) w := Try.zeroValue62 w
theorem ag_pithlaw07_Op (w : World) : (isAgg 64).run Try.prog w = .ok true w := Try.isAgg64 w
theorem sz_pithlaw07_Op (w : World) : (sizeOf 64).run Try.prog w = .ok 7 w := Try.sizeOf64 w
theorem zv_pithlaw07_Op (w : World) : (zeroValue 64).run Try.prog w = .ok (.agg #[(.int .i64 0), (.int .i64 0), (.int .i64 0), (.int .i64 0), (.int .i64 0), (.int .u32 0), (.int .i64 0)]) w := Try.zeroValue64 w
theorem ag_pithlaw07_Held (w : World) : (isAgg 68).run Try.prog w = .ok true w := Try.isAgg68 w
theorem sz_pithlaw07_Held (w : World) : (sizeOf 68).run Try.prog w = .ok 5 w := Try.sizeOf68 w
theorem zv_pithlaw07_Held (w : World) : (zeroValue 68).run Try.prog w = .ok (.agg #[(.slice none 0 0), (.int .i64 0), (.int .u8 0), (.string ⟨#[]⟩), (.bool false)]) w := Try.zeroValue68 w
theorem un_sl_pithlaw08_Ask : Try.prog.underlying 74 = some (.slice 87) := Try.underlying74
theorem na_sl_pithlaw08_Ask (w : World) : (isAgg 74).run Try.prog w = .ok false w := Try.isAgg74 w
theorem sz_sl_pithlaw08_Ask (w : World) : (sizeOf 74).run Try.prog w = .ok 1 w := Try.sizeOf74 w
theorem zv_sl_pithlaw08_Ask (w : World) : (zeroValue 74).run Try.prog w = .ok (.slice none 0 0) w := Try.zeroValue74 w
theorem un_p_rcdec_Decoder : Try.prog.underlying 75 = some (.pointer 149) := Try.underlying75
theorem na_p_rcdec_Decoder (w : World) : (isAgg 75).run Try.prog w = .ok false w := Try.isAgg75 w
theorem sz_p_rcdec_Decoder (w : World) : (sizeOf 75).run Try.prog w = .ok 1 w := Try.sizeOf75 w
theorem zv_p_rcdec_Decoder (w : World) : (zeroValue 75).run Try.prog w = .ok (.pointer none) w := Try.zeroValue75 w
theorem ag_pithlaw08_Ask (w : World) : (isAgg 87).run Try.prog w = .ok true w := Try.isAgg87 w
theorem sz_pithlaw08_Ask (w : World) : (sizeOf 87).run Try.prog w = .ok 4 w := Try.sizeOf87 w
theorem zv_pithlaw08_Ask (w : World) : (zeroValue 87).run Try.prog w = .ok (.agg #[(.bool false), (.int .i64 0), (.int .i64 0), (.int .u32 0)]) w := Try.zeroValue87 w
theorem ag_pithlaw08_Plan (w : World) : (isAgg 98).run Try.prog w = .ok true w := Try.isAgg98 w
theorem sz_pithlaw08_Plan (w : World) : (sizeOf 98).run Try.prog w = .ok 2 w := Try.sizeOf98 w
theorem zv_pithlaw08_Plan (w : World) : (zeroValue 98).run Try.prog w = .ok (.agg #[(.int .i64 0), (.slice none 0 0)]) w := Try.zeroValue98 w
theorem un_sl_bool : Try.prog.underlying 102 = some (.slice 4) := Try.underlying102
theorem na_sl_bool (w : World) : (isAgg 102).run Try.prog w = .ok false w := Try.isAgg102 w
theorem sz_sl_bool (w : World) : (sizeOf 102).run Try.prog w = .ok 1 w := Try.sizeOf102 w
theorem zv_sl_bool (w : World) : (zeroValue 102).run Try.prog w = .ok (.slice none 0 0) w := Try.zeroValue102 w
theorem un_sl_pithlaw09_Op : Try.prog.underlying 110 = some (.slice 116) := Try.underlying110
theorem na_sl_pithlaw09_Op (w : World) : (isAgg 110).run Try.prog w = .ok false w := Try.isAgg110 w
theorem sz_sl_pithlaw09_Op (w : World) : (sizeOf 110).run Try.prog w = .ok 1 w := Try.sizeOf110 w
theorem zv_sl_pithlaw09_Op (w : World) : (zeroValue 110).run Try.prog w = .ok (.slice none 0 0) w := Try.zeroValue110 w
theorem ag_pithlaw09_Op (w : World) : (isAgg 116).run Try.prog w = .ok true w := Try.isAgg116 w
theorem sz_pithlaw09_Op (w : World) : (sizeOf 116).run Try.prog w = .ok 5 w := Try.sizeOf116 w
theorem zv_pithlaw09_Op (w : World) : (zeroValue 116).run Try.prog w = .ok (.agg #[(.int .i64 0), (.int .i64 0), (.int .i64 0), (.int .i64 0), (.int .i64 0)]) w := Try.zeroValue116 w
theorem un_sl_sl_uint8 : Try.prog.underlying 120 = some (.slice 29) := Try.underlying120
theorem na_sl_sl_uint8 (w : World) : (isAgg 120).run Try.prog w = .ok false w := Try.isAgg120 w
theorem sz_sl_sl_uint8 (w : World) : (sizeOf 120).run Try.prog w = .ok 1 w := Try.sizeOf120 w
theorem zv_sl_sl_uint8 (w : World) : (zeroValue 120).run Try.prog w = .ok (.slice none 0 0) w := Try.zeroValue120 w
theorem un_sl_p_prob_Set : Try.prog.underlying 127 = some (.slice 34) := Try.underlying127
theorem na_sl_p_prob_Set (w : World) : (isAgg 127).run Try.prog w = .ok false w := Try.isAgg127 w
theorem sz_sl_p_prob_Set (w : World) : (sizeOf 127).run Try.prog w = .ok 1 w := Try.sizeOf127 w
theorem zv_sl_p_prob_Set (w : World) : (zeroValue 127).run Try.prog w = .ok (.slice none 0 0) w := Try.zeroValue127 w
theorem un_sl_p_pithref06_Set : Try.prog.underlying 128 = some (.slice 51) := Try.underlying128
theorem na_sl_p_pithref06_Set (w : World) : (isAgg 128).run Try.prog w = .ok false w := Try.isAgg128 w
theorem sz_sl_p_pithref06_Set (w : World) : (sizeOf 128).run Try.prog w = .ok 1 w := Try.sizeOf128 w
theorem zv_sl_p_pithref06_Set (w : World) : (zeroValue 128).run Try.prog w = .ok (.slice none 0 0) w := Try.zeroValue128 w
theorem ag_pithlaw09_rows (w : World) : (isAgg 130).run Try.prog w = .ok true w := Try.isAgg130 w
theorem sz_pithlaw09_rows (w : World) : (sizeOf 130).run Try.prog w = .ok 2 w := Try.sizeOf130 w
theorem zv_pithlaw09_rows (w : World) : (zeroValue 130).run Try.prog w = .ok (.agg #[(.slice none 0 0), (.slice none 0 0)]) w := Try.zeroValue130 w
theorem un_uint64 : Try.prog.underlying 131 = some (.int .u64) := Try.underlying131
theorem na_uint64 (w : World) : (isAgg 131).run Try.prog w = .ok false w := Try.isAgg131 w
theorem sz_uint64 (w : World) : (sizeOf 131).run Try.prog w = .ok 1 w := Try.sizeOf131 w
theorem zv_uint64 (w : World) : (zeroValue 131).run Try.prog w = .ok (.int .u64 0) w := Try.zeroValue131 w
theorem ag_rcenc_Encoder (w : World) : (isAgg 133).run Try.prog w = .ok true w := Try.isAgg133 w
theorem sz_rcenc_Encoder (w : World) : (sizeOf 133).run Try.prog w = .ok 5 w := Try.sizeOf133 w
theorem zv_rcenc_Encoder (w : World) : (zeroValue 133).run Try.prog w = .ok (.agg #[(.int .u64 0), (.int .u32 0), (.int .u8 0), (.int .i64 0), (.slice none 0 0)]) w := Try.zeroValue133 w
theorem ag_prob_Set (w : World) : (isAgg 137).run Try.prog w = .ok true w := Try.isAgg137 w
theorem sz_prob_Set (w : World) : (sizeOf 137).run Try.prog w = .ok 1 w := Try.sizeOf137 w
theorem zv_prob_Set (w : World) : (zeroValue 137).run Try.prog w = .ok (.agg #[(.slice none 0 0)]) w := Try.zeroValue137 w
theorem ag_pithref07_Encoder (w : World) : (isAgg 139).run Try.prog w = .ok true w := Try.isAgg139 w
theorem sz_pithref07_Encoder (w : World) : (sizeOf 139).run Try.prog w = .ok 3 w := Try.sizeOf139 w
theorem zv_pithref07_Encoder (w : World) : (zeroValue 139).run Try.prog w = .ok (.agg #[(.slice none 0 0), (.int .u32 0), (.int .i64 0)]) w := Try.zeroValue139 w
theorem ag_pithref06_Set (w : World) : (isAgg 145).run Try.prog w = .ok true w := Try.isAgg145 w
theorem sz_pithref06_Set (w : World) : (sizeOf 145).run Try.prog w = .ok 2 w := Try.sizeOf145 w
theorem zv_pithref06_Set (w : World) : (zeroValue 145).run Try.prog w = .ok (.agg #[(.int .i64 0), (.slice none 0 0)]) w := Try.zeroValue145 w
theorem ag_rcdec_place (w : World) : (isAgg 147).run Try.prog w = .ok true w := Try.isAgg147 w
theorem sz_rcdec_place (w : World) : (sizeOf 147).run Try.prog w = .ok 3 w := Try.sizeOf147 w
theorem zv_rcdec_place (w : World) : (zeroValue 147).run Try.prog w = .ok (.agg #[(.int .i64 0), (.int .u32 0), (.int .u32 0)]) w := Try.zeroValue147 w
theorem ag_rcdec_Decoder (w : World) : (isAgg 149).run Try.prog w = .ok true w := Try.isAgg149 w
theorem sz_rcdec_Decoder (w : World) : (sizeOf 149).run Try.prog w = .ok 4 w := Try.sizeOf149 w
theorem zv_rcdec_Decoder (w : World) : (zeroValue 149).run Try.prog w = .ok (.agg #[(.slice none 0 0), (.int .i64 0), (.int .u32 0), (.int .u32 0)]) w := Try.zeroValue149 w
theorem ag_pithref08_Decoder (w : World) : (isAgg 151).run Try.prog w = .ok true w := Try.isAgg151 w
theorem sz_pithref08_Decoder (w : World) : (sizeOf 151).run Try.prog w = .ok 4 w := Try.sizeOf151 w
theorem zv_pithref08_Decoder (w : World) : (zeroValue 151).run Try.prog w = .ok (.agg #[(.slice none 0 0), (.int .i64 0), (.int .i64 0), (.int .i64 0)]) w := Try.zeroValue151 w
theorem un_sl_pithref09_Step : Try.prog.underlying 171 = some (.slice 175) := Try.underlying171
theorem na_sl_pithref09_Step (w : World) : (isAgg 171).run Try.prog w = .ok false w := Try.isAgg171 w
theorem sz_sl_pithref09_Step (w : World) : (sizeOf 171).run Try.prog w = .ok 1 w := Try.sizeOf171 w
theorem zv_sl_pithref09_Step (w : World) : (zeroValue 171).run Try.prog w = .ok (.slice none 0 0) w := Try.zeroValue171 w
theorem ag_pithref09_Step (w : World) : (isAgg 175).run Try.prog w = .ok true w := Try.isAgg175 w
theorem sz_pithref09_Step (w : World) : (sizeOf 175).run Try.prog w = .ok 2 w := Try.sizeOf175 w
theorem zv_pithref09_Step (w : World) : (zeroValue 175).run Try.prog w = .ok (.agg #[(.int .i64 0), (.int .i64 0)]) w := Try.zeroValue175 w
theorem st_sl_uint32 : SlT Try.prog 22 26 (.int .u32 0) 1 4 := ⟨Try.underlying22, info_parts (by kernel_rfl), rfl, by decide⟩
theorem st_sl_int : SlT Try.prog 23 3 (.int .i64 0) 1 8 := ⟨Try.underlying23, info_parts (by kernel_rfl), rfl, by decide⟩
theorem st_sl_uint8 : SlT Try.prog 29 5 (.int .u8 0) 1 1 := ⟨Try.underlying29, info_parts (by kernel_rfl), rfl, by decide⟩
theorem st_sl_pithlaw07_Bit : SlT Try.prog 33 38 (.agg #[(.int .i64 0), (.bool false)]) 2 16 := ⟨Try.underlying33, info_parts (by kernel_rfl), rfl, by decide⟩
theorem st_sl_pithlaw07_Op : SlT Try.prog 49 64 (.agg #[(.int .i64 0), (.int .i64 0), (.int .i64 0), (.int .i64 0), (.int .i64 0), (.int .u32 0), (.int .i64 0)]) 7 56 := ⟨Try.underlying49, info_parts (by kernel_rfl), rfl, by decide⟩
theorem st_sl_pithlaw07_Pair : SlT Try.prog 61 60 (.agg #[(.pointer none), (.pointer none)]) 2 16 := ⟨Try.underlying61, info_parts (by kernel_rfl), rfl, by decide⟩
theorem st_sl_pithlaw07_Held : SlT Try.prog 62 68 (.agg #[(.slice none 0 0), (.int .i64 0), (.int .u8 0), (.string ⟨#[]⟩), (.bool false)]) 5 64 := ⟨Try.underlying62, info_parts (by kernel_rfl), rfl, by decide⟩
theorem st_sl_pithlaw08_Ask : SlT Try.prog 74 87 (.agg #[(.bool false), (.int .i64 0), (.int .i64 0), (.int .u32 0)]) 4 32 := ⟨Try.underlying74, info_parts (by kernel_rfl), rfl, by decide⟩
theorem st_sl_bool : SlT Try.prog 102 4 (.bool false) 1 1 := ⟨Try.underlying102, info_parts (by kernel_rfl), rfl, by decide⟩
theorem st_sl_pithlaw09_Op : SlT Try.prog 110 116 (.agg #[(.int .i64 0), (.int .i64 0), (.int .i64 0), (.int .i64 0), (.int .i64 0)]) 5 40 := ⟨Try.underlying110, info_parts (by kernel_rfl), rfl, by decide⟩
theorem st_sl_sl_uint8 : SlT Try.prog 120 29 (.slice none 0 0) 1 24 := ⟨Try.underlying120, info_parts (by kernel_rfl), rfl, by decide⟩
theorem st_sl_p_prob_Set : SlT Try.prog 127 34 (.pointer none) 1 8 := ⟨Try.underlying127, info_parts (by kernel_rfl), rfl, by decide⟩
theorem st_sl_p_pithref06_Set : SlT Try.prog 128 51 (.pointer none) 1 8 := ⟨Try.underlying128, info_parts (by kernel_rfl), rfl, by decide⟩
theorem st_sl_pithref09_Step : SlT Try.prog 171 175 (.agg #[(.int .i64 0), (.int .i64 0)]) 2 16 := ⟨Try.underlying171, info_parts (by kernel_rfl), rfl, by decide⟩
theorem pN_conv_int_uint8 (k : IntKind) (n : Int) : pN Try.prog (oConv 3 5 (.int k n)) w K = K (.int .u8 (IntKind.wrap .u8 n)) w := pN_conv k n Try.underlying3 Try.underlying5
theorem pA_conv_int_uint8 (k : IntKind) (n : Int) : pA Try.prog (oConv 3 5 (.int k n)) J = J (.int .u8 (IntKind.wrap .u8 n)) := pA_conv k n Try.underlying3 Try.underlying5
theorem pL_conv_int_uint8 (k : IntKind) (n : Int) : pL Try.prog (oConv 3 5 (.int k n)) w J = J (.int .u8 (IntKind.wrap .u8 n)) := pL_conv k n Try.underlying3 Try.underlying5
theorem pN_conv_int_uint32 (k : IntKind) (n : Int) : pN Try.prog (oConv 3 26 (.int k n)) w K = K (.int .u32 (IntKind.wrap .u32 n)) w := pN_conv k n Try.underlying3 Try.underlying26
theorem pA_conv_int_uint32 (k : IntKind) (n : Int) : pA Try.prog (oConv 3 26 (.int k n)) J = J (.int .u32 (IntKind.wrap .u32 n)) := pA_conv k n Try.underlying3 Try.underlying26
theorem pL_conv_int_uint32 (k : IntKind) (n : Int) : pL Try.prog (oConv 3 26 (.int k n)) w J = J (.int .u32 (IntKind.wrap .u32 n)) := pL_conv k n Try.underlying3 Try.underlying26
theorem pN_conv_uint8_int (k : IntKind) (n : Int) : pN Try.prog (oConv 5 3 (.int k n)) w K = K (.int .i64 (IntKind.wrap .i64 n)) w := pN_conv k n Try.underlying5 Try.underlying3
theorem pA_conv_uint8_int (k : IntKind) (n : Int) : pA Try.prog (oConv 5 3 (.int k n)) J = J (.int .i64 (IntKind.wrap .i64 n)) := pA_conv k n Try.underlying5 Try.underlying3
theorem pL_conv_uint8_int (k : IntKind) (n : Int) : pL Try.prog (oConv 5 3 (.int k n)) w J = J (.int .i64 (IntKind.wrap .i64 n)) := pL_conv k n Try.underlying5 Try.underlying3
theorem pN_conv_uint8_uint32 (k : IntKind) (n : Int) : pN Try.prog (oConv 5 26 (.int k n)) w K = K (.int .u32 (IntKind.wrap .u32 n)) w := pN_conv k n Try.underlying5 Try.underlying26
theorem pA_conv_uint8_uint32 (k : IntKind) (n : Int) : pA Try.prog (oConv 5 26 (.int k n)) J = J (.int .u32 (IntKind.wrap .u32 n)) := pA_conv k n Try.underlying5 Try.underlying26
theorem pL_conv_uint8_uint32 (k : IntKind) (n : Int) : pL Try.prog (oConv 5 26 (.int k n)) w J = J (.int .u32 (IntKind.wrap .u32 n)) := pL_conv k n Try.underlying5 Try.underlying26
theorem pN_conv_uint8_uint64 (k : IntKind) (n : Int) : pN Try.prog (oConv 5 131 (.int k n)) w K = K (.int .u64 (IntKind.wrap .u64 n)) w := pN_conv k n Try.underlying5 Try.underlying131
theorem pA_conv_uint8_uint64 (k : IntKind) (n : Int) : pA Try.prog (oConv 5 131 (.int k n)) J = J (.int .u64 (IntKind.wrap .u64 n)) := pA_conv k n Try.underlying5 Try.underlying131
theorem pL_conv_uint8_uint64 (k : IntKind) (n : Int) : pL Try.prog (oConv 5 131 (.int k n)) w J = J (.int .u64 (IntKind.wrap .u64 n)) := pL_conv k n Try.underlying5 Try.underlying131
theorem pN_conv_uint32_int (k : IntKind) (n : Int) : pN Try.prog (oConv 26 3 (.int k n)) w K = K (.int .i64 (IntKind.wrap .i64 n)) w := pN_conv k n Try.underlying26 Try.underlying3
theorem pA_conv_uint32_int (k : IntKind) (n : Int) : pA Try.prog (oConv 26 3 (.int k n)) J = J (.int .i64 (IntKind.wrap .i64 n)) := pA_conv k n Try.underlying26 Try.underlying3
theorem pL_conv_uint32_int (k : IntKind) (n : Int) : pL Try.prog (oConv 26 3 (.int k n)) w J = J (.int .i64 (IntKind.wrap .i64 n)) := pL_conv k n Try.underlying26 Try.underlying3
theorem pN_conv_uint32_uint64 (k : IntKind) (n : Int) : pN Try.prog (oConv 26 131 (.int k n)) w K = K (.int .u64 (IntKind.wrap .u64 n)) w := pN_conv k n Try.underlying26 Try.underlying131
theorem pA_conv_uint32_uint64 (k : IntKind) (n : Int) : pA Try.prog (oConv 26 131 (.int k n)) J = J (.int .u64 (IntKind.wrap .u64 n)) := pA_conv k n Try.underlying26 Try.underlying131
theorem pL_conv_uint32_uint64 (k : IntKind) (n : Int) : pL Try.prog (oConv 26 131 (.int k n)) w J = J (.int .u64 (IntKind.wrap .u64 n)) := pL_conv k n Try.underlying26 Try.underlying131
theorem run_str_sl_uint8 {v : Value} {n : Nat} {l : List UInt8} (hr : Rd w 1 v n (bvs l)) : (oConv 29 9 v).run Try.prog w = .ok (.value (.string ⟨l.toArray⟩)) w := run_str Try.underlying29 Try.underlying5 Try.underlying9 hr.len
theorem pN_str_sl_uint8 {v : Value} {n : Nat} {l : List UInt8} (hr : Rd w 1 v n (bvs l)) : pN Try.prog (oConv 29 9 v) w K = K (.string ⟨l.toArray⟩) w := by rw [pN_def, run_str_sl_uint8 hr, rN_value]
theorem pL_str_sl_uint8 {v : Value} {n : Nat} {l : List UInt8} (hr : Rd w 1 v n (bvs l)) : pL Try.prog (oConv 29 9 v) w J = J (.string ⟨l.toArray⟩) := by rw [pL_def, run_str_sl_uint8 hr, rL_value]
theorem pN_conv_uint64_uint8 (k : IntKind) (n : Int) : pN Try.prog (oConv 131 5 (.int k n)) w K = K (.int .u8 (IntKind.wrap .u8 n)) w := pN_conv k n Try.underlying131 Try.underlying5
theorem pA_conv_uint64_uint8 (k : IntKind) (n : Int) : pA Try.prog (oConv 131 5 (.int k n)) J = J (.int .u8 (IntKind.wrap .u8 n)) := pA_conv k n Try.underlying131 Try.underlying5
theorem pL_conv_uint64_uint8 (k : IntKind) (n : Int) : pL Try.prog (oConv 131 5 (.int k n)) w J = J (.int .u8 (IntKind.wrap .u8 n)) := pL_conv k n Try.underlying131 Try.underlying5
theorem pN_len_sl_uint32 (ty : TypeId) (ao : Option Addr) (n c : Nat) (cs : List Bool) : pN Try.prog (oBi .len #[22] ty cs [.slice ao n c]) w K = K (.int .i64 n) w := pN_len 22 ty ao n c cs Try.underlying22
theorem pA_len_sl_uint32 (ty : TypeId) (ao : Option Addr) (n c : Nat) (cs : List Bool) : pA Try.prog (oBi .len #[22] ty cs [.slice ao n c]) J = J (.int .i64 n) := pA_len 22 ty ao n c cs Try.underlying22
theorem pN_len_sl_uint32_rd {v : Value} (ty : TypeId) {n s : Nat} {xs : List Value} (cs : List Bool) (hr : Rd w s v n xs) : pN Try.prog (oBi .len #[22] ty cs [v]) w K = K (.int .i64 n) w := by obtain ⟨_, ao, cap, rfl, _⟩ := hr; exact pN_len_sl_uint32 ty ao n cap cs
theorem pA_len_sl_uint32_rd {v : Value} (ty : TypeId) {n s : Nat} {xs : List Value} (cs : List Bool) (hr : Rd w s v n xs) : pA Try.prog (oBi .len #[22] ty cs [v]) J = J (.int .i64 n) := by obtain ⟨_, ao, cap, rfl, _⟩ := hr; exact pA_len_sl_uint32 ty ao n cap cs
theorem pN_len_sl_int (ty : TypeId) (ao : Option Addr) (n c : Nat) (cs : List Bool) : pN Try.prog (oBi .len #[23] ty cs [.slice ao n c]) w K = K (.int .i64 n) w := pN_len 23 ty ao n c cs Try.underlying23
theorem pA_len_sl_int (ty : TypeId) (ao : Option Addr) (n c : Nat) (cs : List Bool) : pA Try.prog (oBi .len #[23] ty cs [.slice ao n c]) J = J (.int .i64 n) := pA_len 23 ty ao n c cs Try.underlying23
theorem pN_len_sl_int_rd {v : Value} (ty : TypeId) {n s : Nat} {xs : List Value} (cs : List Bool) (hr : Rd w s v n xs) : pN Try.prog (oBi .len #[23] ty cs [v]) w K = K (.int .i64 n) w := by obtain ⟨_, ao, cap, rfl, _⟩ := hr; exact pN_len_sl_int ty ao n cap cs
theorem pA_len_sl_int_rd {v : Value} (ty : TypeId) {n s : Nat} {xs : List Value} (cs : List Bool) (hr : Rd w s v n xs) : pA Try.prog (oBi .len #[23] ty cs [v]) J = J (.int .i64 n) := by obtain ⟨_, ao, cap, rfl, _⟩ := hr; exact pA_len_sl_int ty ao n cap cs
theorem pN_len_sl_uint8 (ty : TypeId) (ao : Option Addr) (n c : Nat) (cs : List Bool) : pN Try.prog (oBi .len #[29] ty cs [.slice ao n c]) w K = K (.int .i64 n) w := pN_len 29 ty ao n c cs Try.underlying29
theorem pA_len_sl_uint8 (ty : TypeId) (ao : Option Addr) (n c : Nat) (cs : List Bool) : pA Try.prog (oBi .len #[29] ty cs [.slice ao n c]) J = J (.int .i64 n) := pA_len 29 ty ao n c cs Try.underlying29
theorem pN_len_sl_uint8_rd {v : Value} (ty : TypeId) {n s : Nat} {xs : List Value} (cs : List Bool) (hr : Rd w s v n xs) : pN Try.prog (oBi .len #[29] ty cs [v]) w K = K (.int .i64 n) w := by obtain ⟨_, ao, cap, rfl, _⟩ := hr; exact pN_len_sl_uint8 ty ao n cap cs
theorem pA_len_sl_uint8_rd {v : Value} (ty : TypeId) {n s : Nat} {xs : List Value} (cs : List Bool) (hr : Rd w s v n xs) : pA Try.prog (oBi .len #[29] ty cs [v]) J = J (.int .i64 n) := by obtain ⟨_, ao, cap, rfl, _⟩ := hr; exact pA_len_sl_uint8 ty ao n cap cs
theorem pN_len_sl_pithlaw07_Bit (ty : TypeId) (ao : Option Addr) (n c : Nat) (cs : List Bool) : pN Try.prog (oBi .len #[33] ty cs [.slice ao n c]) w K = K (.int .i64 n) w := pN_len 33 ty ao n c cs Try.underlying33
theorem pA_len_sl_pithlaw07_Bit (ty : TypeId) (ao : Option Addr) (n c : Nat) (cs : List Bool) : pA Try.prog (oBi .len #[33] ty cs [.slice ao n c]) J = J (.int .i64 n) := pA_len 33 ty ao n c cs Try.underlying33
theorem pN_len_sl_pithlaw07_Bit_rd {v : Value} (ty : TypeId) {n s : Nat} {xs : List Value} (cs : List Bool) (hr : Rd w s v n xs) : pN Try.prog (oBi .len #[33] ty cs [v]) w K = K (.int .i64 n) w := by obtain ⟨_, ao, cap, rfl, _⟩ := hr; exact pN_len_sl_pithlaw07_Bit ty ao n cap cs
theorem pA_len_sl_pithlaw07_Bit_rd {v : Value} (ty : TypeId) {n s : Nat} {xs : List Value} (cs : List Bool) (hr : Rd w s v n xs) : pA Try.prog (oBi .len #[33] ty cs [v]) J = J (.int .i64 n) := by obtain ⟨_, ao, cap, rfl, _⟩ := hr; exact pA_len_sl_pithlaw07_Bit ty ao n cap cs
theorem pN_len_sl_pithlaw07_Op (ty : TypeId) (ao : Option Addr) (n c : Nat) (cs : List Bool) : pN Try.prog (oBi .len #[49] ty cs [.slice ao n c]) w K = K (.int .i64 n) w := pN_len 49 ty ao n c cs Try.underlying49
theorem pA_len_sl_pithlaw07_Op (ty : TypeId) (ao : Option Addr) (n c : Nat) (cs : List Bool) : pA Try.prog (oBi .len #[49] ty cs [.slice ao n c]) J = J (.int .i64 n) := pA_len 49 ty ao n c cs Try.underlying49
theorem pN_len_sl_pithlaw07_Op_rd {v : Value} (ty : TypeId) {n s : Nat} {xs : List Value} (cs : List Bool) (hr : Rd w s v n xs) : pN Try.prog (oBi .len #[49] ty cs [v]) w K = K (.int .i64 n) w := by obtain ⟨_, ao, cap, rfl, _⟩ := hr; exact pN_len_sl_pithlaw07_Op ty ao n cap cs
theorem pA_len_sl_pithlaw07_Op_rd {v : Value} (ty : TypeId) {n s : Nat} {xs : List Value} (cs : List Bool) (hr : Rd w s v n xs) : pA Try.prog (oBi .len #[49] ty cs [v]) J = J (.int .i64 n) := by obtain ⟨_, ao, cap, rfl, _⟩ := hr; exact pA_len_sl_pithlaw07_Op ty ao n cap cs
theorem pN_len_sl_pithlaw07_Pair (ty : TypeId) (ao : Option Addr) (n c : Nat) (cs : List Bool) : pN Try.prog (oBi .len #[61] ty cs [.slice ao n c]) w K = K (.int .i64 n) w := pN_len 61 ty ao n c cs Try.underlying61
theorem pA_len_sl_pithlaw07_Pair (ty : TypeId) (ao : Option Addr) (n c : Nat) (cs : List Bool) : pA Try.prog (oBi .len #[61] ty cs [.slice ao n c]) J = J (.int .i64 n) := pA_len 61 ty ao n c cs Try.underlying61
theorem pN_len_sl_pithlaw07_Pair_rd {v : Value} (ty : TypeId) {n s : Nat} {xs : List Value} (cs : List Bool) (hr : Rd w s v n xs) : pN Try.prog (oBi .len #[61] ty cs [v]) w K = K (.int .i64 n) w := by obtain ⟨_, ao, cap, rfl, _⟩ := hr; exact pN_len_sl_pithlaw07_Pair ty ao n cap cs
theorem pA_len_sl_pithlaw07_Pair_rd {v : Value} (ty : TypeId) {n s : Nat} {xs : List Value} (cs : List Bool) (hr : Rd w s v n xs) : pA Try.prog (oBi .len #[61] ty cs [v]) J = J (.int .i64 n) := by obtain ⟨_, ao, cap, rfl, _⟩ := hr; exact pA_len_sl_pithlaw07_Pair ty ao n cap cs
theorem pN_len_sl_pithlaw07_Held (ty : TypeId) (ao : Option Addr) (n c : Nat) (cs : List Bool) : pN Try.prog (oBi .len #[62] ty cs [.slice ao n c]) w K = K (.int .i64 n) w := pN_len 62 ty ao n c cs Try.underlying62
theorem pA_len_sl_pithlaw07_Held (ty : TypeId) (ao : Option Addr) (n c : Nat) (cs : List Bool) : pA Try.prog (oBi .len #[62] ty cs [.slice ao n c]) J = J (.int .i64 n) := pA_len 62 ty ao n c cs Try.underlying62
theorem pN_len_sl_pithlaw07_Held_rd {v : Value} (ty : TypeId) {n s : Nat} {xs : List Value} (cs : List Bool) (hr : Rd w s v n xs) : pN Try.prog (oBi .len #[62] ty cs [v]) w K = K (.int .i64 n) w := by obtain ⟨_, ao, cap, rfl, _⟩ := hr; exact pN_len_sl_pithlaw07_Held ty ao n cap cs
theorem pA_len_sl_pithlaw07_Held_rd {v : Value} (ty : TypeId) {n s : Nat} {xs : List Value} (cs : List Bool) (hr : Rd w s v n xs) : pA Try.prog (oBi .len #[62] ty cs [v]) J = J (.int .i64 n) := by obtain ⟨_, ao, cap, rfl, _⟩ := hr; exact pA_len_sl_pithlaw07_Held ty ao n cap cs
theorem pN_len_sl_pithlaw08_Ask (ty : TypeId) (ao : Option Addr) (n c : Nat) (cs : List Bool) : pN Try.prog (oBi .len #[74] ty cs [.slice ao n c]) w K = K (.int .i64 n) w := pN_len 74 ty ao n c cs Try.underlying74
theorem pA_len_sl_pithlaw08_Ask (ty : TypeId) (ao : Option Addr) (n c : Nat) (cs : List Bool) : pA Try.prog (oBi .len #[74] ty cs [.slice ao n c]) J = J (.int .i64 n) := pA_len 74 ty ao n c cs Try.underlying74
theorem pN_len_sl_pithlaw08_Ask_rd {v : Value} (ty : TypeId) {n s : Nat} {xs : List Value} (cs : List Bool) (hr : Rd w s v n xs) : pN Try.prog (oBi .len #[74] ty cs [v]) w K = K (.int .i64 n) w := by obtain ⟨_, ao, cap, rfl, _⟩ := hr; exact pN_len_sl_pithlaw08_Ask ty ao n cap cs
theorem pA_len_sl_pithlaw08_Ask_rd {v : Value} (ty : TypeId) {n s : Nat} {xs : List Value} (cs : List Bool) (hr : Rd w s v n xs) : pA Try.prog (oBi .len #[74] ty cs [v]) J = J (.int .i64 n) := by obtain ⟨_, ao, cap, rfl, _⟩ := hr; exact pA_len_sl_pithlaw08_Ask ty ao n cap cs
theorem pN_len_sl_bool (ty : TypeId) (ao : Option Addr) (n c : Nat) (cs : List Bool) : pN Try.prog (oBi .len #[102] ty cs [.slice ao n c]) w K = K (.int .i64 n) w := pN_len 102 ty ao n c cs Try.underlying102
theorem pA_len_sl_bool (ty : TypeId) (ao : Option Addr) (n c : Nat) (cs : List Bool) : pA Try.prog (oBi .len #[102] ty cs [.slice ao n c]) J = J (.int .i64 n) := pA_len 102 ty ao n c cs Try.underlying102
theorem pN_len_sl_bool_rd {v : Value} (ty : TypeId) {n s : Nat} {xs : List Value} (cs : List Bool) (hr : Rd w s v n xs) : pN Try.prog (oBi .len #[102] ty cs [v]) w K = K (.int .i64 n) w := by obtain ⟨_, ao, cap, rfl, _⟩ := hr; exact pN_len_sl_bool ty ao n cap cs
theorem pA_len_sl_bool_rd {v : Value} (ty : TypeId) {n s : Nat} {xs : List Value} (cs : List Bool) (hr : Rd w s v n xs) : pA Try.prog (oBi .len #[102] ty cs [v]) J = J (.int .i64 n) := by obtain ⟨_, ao, cap, rfl, _⟩ := hr; exact pA_len_sl_bool ty ao n cap cs
theorem pN_len_sl_pithlaw09_Op (ty : TypeId) (ao : Option Addr) (n c : Nat) (cs : List Bool) : pN Try.prog (oBi .len #[110] ty cs [.slice ao n c]) w K = K (.int .i64 n) w := pN_len 110 ty ao n c cs Try.underlying110
theorem pA_len_sl_pithlaw09_Op (ty : TypeId) (ao : Option Addr) (n c : Nat) (cs : List Bool) : pA Try.prog (oBi .len #[110] ty cs [.slice ao n c]) J = J (.int .i64 n) := pA_len 110 ty ao n c cs Try.underlying110
theorem pN_len_sl_pithlaw09_Op_rd {v : Value} (ty : TypeId) {n s : Nat} {xs : List Value} (cs : List Bool) (hr : Rd w s v n xs) : pN Try.prog (oBi .len #[110] ty cs [v]) w K = K (.int .i64 n) w := by obtain ⟨_, ao, cap, rfl, _⟩ := hr; exact pN_len_sl_pithlaw09_Op ty ao n cap cs
theorem pA_len_sl_pithlaw09_Op_rd {v : Value} (ty : TypeId) {n s : Nat} {xs : List Value} (cs : List Bool) (hr : Rd w s v n xs) : pA Try.prog (oBi .len #[110] ty cs [v]) J = J (.int .i64 n) := by obtain ⟨_, ao, cap, rfl, _⟩ := hr; exact pA_len_sl_pithlaw09_Op ty ao n cap cs
theorem pN_len_sl_sl_uint8 (ty : TypeId) (ao : Option Addr) (n c : Nat) (cs : List Bool) : pN Try.prog (oBi .len #[120] ty cs [.slice ao n c]) w K = K (.int .i64 n) w := pN_len 120 ty ao n c cs Try.underlying120
theorem pA_len_sl_sl_uint8 (ty : TypeId) (ao : Option Addr) (n c : Nat) (cs : List Bool) : pA Try.prog (oBi .len #[120] ty cs [.slice ao n c]) J = J (.int .i64 n) := pA_len 120 ty ao n c cs Try.underlying120
theorem pN_len_sl_sl_uint8_rd {v : Value} (ty : TypeId) {n s : Nat} {xs : List Value} (cs : List Bool) (hr : Rd w s v n xs) : pN Try.prog (oBi .len #[120] ty cs [v]) w K = K (.int .i64 n) w := by obtain ⟨_, ao, cap, rfl, _⟩ := hr; exact pN_len_sl_sl_uint8 ty ao n cap cs
theorem pA_len_sl_sl_uint8_rd {v : Value} (ty : TypeId) {n s : Nat} {xs : List Value} (cs : List Bool) (hr : Rd w s v n xs) : pA Try.prog (oBi .len #[120] ty cs [v]) J = J (.int .i64 n) := by obtain ⟨_, ao, cap, rfl, _⟩ := hr; exact pA_len_sl_sl_uint8 ty ao n cap cs
theorem pN_len_sl_p_prob_Set (ty : TypeId) (ao : Option Addr) (n c : Nat) (cs : List Bool) : pN Try.prog (oBi .len #[127] ty cs [.slice ao n c]) w K = K (.int .i64 n) w := pN_len 127 ty ao n c cs Try.underlying127
theorem pA_len_sl_p_prob_Set (ty : TypeId) (ao : Option Addr) (n c : Nat) (cs : List Bool) : pA Try.prog (oBi .len #[127] ty cs [.slice ao n c]) J = J (.int .i64 n) := pA_len 127 ty ao n c cs Try.underlying127
theorem pN_len_sl_p_prob_Set_rd {v : Value} (ty : TypeId) {n s : Nat} {xs : List Value} (cs : List Bool) (hr : Rd w s v n xs) : pN Try.prog (oBi .len #[127] ty cs [v]) w K = K (.int .i64 n) w := by obtain ⟨_, ao, cap, rfl, _⟩ := hr; exact pN_len_sl_p_prob_Set ty ao n cap cs
theorem pA_len_sl_p_prob_Set_rd {v : Value} (ty : TypeId) {n s : Nat} {xs : List Value} (cs : List Bool) (hr : Rd w s v n xs) : pA Try.prog (oBi .len #[127] ty cs [v]) J = J (.int .i64 n) := by obtain ⟨_, ao, cap, rfl, _⟩ := hr; exact pA_len_sl_p_prob_Set ty ao n cap cs
theorem pN_len_sl_pithref09_Step (ty : TypeId) (ao : Option Addr) (n c : Nat) (cs : List Bool) : pN Try.prog (oBi .len #[171] ty cs [.slice ao n c]) w K = K (.int .i64 n) w := pN_len 171 ty ao n c cs Try.underlying171
theorem pA_len_sl_pithref09_Step (ty : TypeId) (ao : Option Addr) (n c : Nat) (cs : List Bool) : pA Try.prog (oBi .len #[171] ty cs [.slice ao n c]) J = J (.int .i64 n) := pA_len 171 ty ao n c cs Try.underlying171
theorem pN_len_sl_pithref09_Step_rd {v : Value} (ty : TypeId) {n s : Nat} {xs : List Value} (cs : List Bool) (hr : Rd w s v n xs) : pN Try.prog (oBi .len #[171] ty cs [v]) w K = K (.int .i64 n) w := by obtain ⟨_, ao, cap, rfl, _⟩ := hr; exact pN_len_sl_pithref09_Step ty ao n cap cs
theorem pA_len_sl_pithref09_Step_rd {v : Value} (ty : TypeId) {n s : Nat} {xs : List Value} (cs : List Bool) (hr : Rd w s v n xs) : pA Try.prog (oBi .len #[171] ty cs [v]) J = J (.int .i64 n) := by obtain ⟨_, ao, cap, rfl, _⟩ := hr; exact pA_len_sl_pithref09_Step ty ao n cap cs
theorem pN_aidx_arr4_int (b o : Nat) (k : IntKind) (i : Int) (h0 : 0 ≤ i) (h1 : i < 4) : pN Try.prog (oIdx 43 (.pointer (some ⟨b, o, none⟩)) (.int k i)) w K = K (.pointer (some ⟨b, o + i.toNat, none⟩)) w := pN_aidx Try.underlying43 Try.sizeOf3 b o k i h0 h1
theorem pA_aidx_arr4_int (b o : Nat) (k : IntKind) (i : Int) (h0 : 0 ≤ i) (h1 : i < 4) : pA Try.prog (oIdx 43 (.pointer (some ⟨b, o, none⟩)) (.int k i)) J = J (.pointer (some ⟨b, o + i.toNat, none⟩)) := pA_aidx Try.underlying43 Try.sizeOf3 b o k i h0 h1
theorem pN_aidx_arr2_p_prob_Set (b o : Nat) (k : IntKind) (i : Int) (h0 : 0 ≤ i) (h1 : i < 2) : pN Try.prog (oIdx 50 (.pointer (some ⟨b, o, none⟩)) (.int k i)) w K = K (.pointer (some ⟨b, o + i.toNat, none⟩)) w := pN_aidx Try.underlying50 Try.sizeOf34 b o k i h0 h1
theorem pA_aidx_arr2_p_prob_Set (b o : Nat) (k : IntKind) (i : Int) (h0 : 0 ≤ i) (h1 : i < 2) : pA Try.prog (oIdx 50 (.pointer (some ⟨b, o, none⟩)) (.int k i)) J = J (.pointer (some ⟨b, o + i.toNat, none⟩)) := pA_aidx Try.underlying50 Try.sizeOf34 b o k i h0 h1
theorem pN_aidx_arr2_p_pithref06_Set (b o : Nat) (k : IntKind) (i : Int) (h0 : 0 ≤ i) (h1 : i < 2) : pN Try.prog (oIdx 52 (.pointer (some ⟨b, o, none⟩)) (.int k i)) w K = K (.pointer (some ⟨b, o + i.toNat, none⟩)) w := pN_aidx Try.underlying52 Try.sizeOf51 b o k i h0 h1
theorem pA_aidx_arr2_p_pithref06_Set (b o : Nat) (k : IntKind) (i : Int) (h0 : 0 ≤ i) (h1 : i < 2) : pA Try.prog (oIdx 52 (.pointer (some ⟨b, o, none⟩)) (.int k i)) J = J (.pointer (some ⟨b, o + i.toNat, none⟩)) := pA_aidx Try.underlying52 Try.sizeOf51 b o k i h0 h1
theorem pN_eql_p_rcenc_Encoder (xo yo : Operand) (p : Option Addr) : pN Try.prog (oBin .eql 24 xo yo (.pointer p) (.pointer none)) w K = K (.bool (p.isNone)) w := pN_eql_ptr 24 xo yo p Try.underlying24
theorem pA_eql_p_rcenc_Encoder (xo yo : Operand) (p : Option Addr) : pA Try.prog (oBin .eql 24 xo yo (.pointer p) (.pointer none)) J = J (.bool (p.isNone)) := pA_eql_ptr 24 xo yo p Try.underlying24
theorem pN_neq_p_rcenc_Encoder (xo yo : Operand) (p : Option Addr) : pN Try.prog (oBin .neq 24 xo yo (.pointer p) (.pointer none)) w K = K (.bool (!p.isNone)) w := pN_neq_ptr 24 xo yo p Try.underlying24
theorem pA_neq_p_rcenc_Encoder (xo yo : Operand) (p : Option Addr) : pA Try.prog (oBin .neq 24 xo yo (.pointer p) (.pointer none)) J = J (.bool (!p.isNone)) := pA_neq_ptr 24 xo yo p Try.underlying24
theorem pN_eql_p_prob_Set (xo yo : Operand) (p : Option Addr) : pN Try.prog (oBin .eql 34 xo yo (.pointer p) (.pointer none)) w K = K (.bool (p.isNone)) w := pN_eql_ptr 34 xo yo p Try.underlying34
theorem pA_eql_p_prob_Set (xo yo : Operand) (p : Option Addr) : pA Try.prog (oBin .eql 34 xo yo (.pointer p) (.pointer none)) J = J (.bool (p.isNone)) := pA_eql_ptr 34 xo yo p Try.underlying34
theorem pN_neq_p_prob_Set (xo yo : Operand) (p : Option Addr) : pN Try.prog (oBin .neq 34 xo yo (.pointer p) (.pointer none)) w K = K (.bool (!p.isNone)) w := pN_neq_ptr 34 xo yo p Try.underlying34
theorem pA_neq_p_prob_Set (xo yo : Operand) (p : Option Addr) : pA Try.prog (oBin .neq 34 xo yo (.pointer p) (.pointer none)) J = J (.bool (!p.isNone)) := pA_neq_ptr 34 xo yo p Try.underlying34
theorem pN_eql_p_rcdec_Decoder (xo yo : Operand) (p : Option Addr) : pN Try.prog (oBin .eql 75 xo yo (.pointer p) (.pointer none)) w K = K (.bool (p.isNone)) w := pN_eql_ptr 75 xo yo p Try.underlying75
theorem pA_eql_p_rcdec_Decoder (xo yo : Operand) (p : Option Addr) : pA Try.prog (oBin .eql 75 xo yo (.pointer p) (.pointer none)) J = J (.bool (p.isNone)) := pA_eql_ptr 75 xo yo p Try.underlying75
theorem pN_neq_p_rcdec_Decoder (xo yo : Operand) (p : Option Addr) : pN Try.prog (oBin .neq 75 xo yo (.pointer p) (.pointer none)) w K = K (.bool (!p.isNone)) w := pN_neq_ptr 75 xo yo p Try.underlying75
theorem pA_neq_p_rcdec_Decoder (xo yo : Operand) (p : Option Addr) : pA Try.prog (oBin .neq 75 xo yo (.pointer p) (.pointer none)) J = J (.bool (!p.isNone)) := pA_neq_ptr 75 xo yo p Try.underlying75
theorem pN_eql_p_pithref08_Decoder (xo yo : Operand) (p : Option Addr) : pN Try.prog (oBin .eql 78 xo yo (.pointer p) (.pointer none)) w K = K (.bool (p.isNone)) w := pN_eql_ptr 78 xo yo p Try.underlying78
theorem pA_eql_p_pithref08_Decoder (xo yo : Operand) (p : Option Addr) : pA Try.prog (oBin .eql 78 xo yo (.pointer p) (.pointer none)) J = J (.bool (p.isNone)) := pA_eql_ptr 78 xo yo p Try.underlying78
theorem pN_neq_p_pithref08_Decoder (xo yo : Operand) (p : Option Addr) : pN Try.prog (oBin .neq 78 xo yo (.pointer p) (.pointer none)) w K = K (.bool (!p.isNone)) w := pN_neq_ptr 78 xo yo p Try.underlying78
theorem pA_neq_p_pithref08_Decoder (xo yo : Operand) (p : Option Addr) : pA Try.prog (oBin .neq 78 xo yo (.pointer p) (.pointer none)) J = J (.bool (!p.isNone)) := pA_neq_ptr 78 xo yo p Try.underlying78
theorem pN_eqlb_bool (xo yo : Operand) (p q : Bool) : pN Try.prog (oBin .eql 4 xo yo (.bool p) (.bool q)) w K = K (.bool (p == q)) w := pN_eql_bool 4 xo yo p q Try.underlying4
theorem pA_eqlb_bool (xo yo : Operand) (p q : Bool) : pA Try.prog (oBin .eql 4 xo yo (.bool p) (.bool q)) J = J (.bool (p == q)) := pA_eql_bool 4 xo yo p q Try.underlying4
theorem pN_neqb_bool (xo yo : Operand) (p q : Bool) : pN Try.prog (oBin .neq 4 xo yo (.bool p) (.bool q)) w K = K (.bool (p != q)) w := pN_neq_bool 4 xo yo p q Try.underlying4
theorem pA_neqb_bool (xo yo : Operand) (p q : Bool) : pA Try.prog (oBin .neq 4 xo yo (.bool p) (.bool q)) J = J (.bool (p != q)) := pA_neq_bool 4 xo yo p q Try.underlying4
theorem run_fld_pithlaw07_Bit_I (b o : Nat) (w : World) : (oFld 38 (.pointer (some ⟨b, o, none⟩)) 0).run Try.prog w = .ok (.value (.pointer (some ⟨b, o, none⟩))) w := by kernel_rfl
theorem pN_fld_pithlaw07_Bit_I (b o : Nat) : pN Try.prog (oFld 38 (.pointer (some ⟨b, o, none⟩)) 0) w K = K (.pointer (some ⟨b, o, none⟩)) w := by rw [pN_def, run_fld_pithlaw07_Bit_I, rN_value]
theorem pA_fld_pithlaw07_Bit_I (b o : Nat) : pA Try.prog (oFld 38 (.pointer (some ⟨b, o, none⟩)) 0) J = J (.pointer (some ⟨b, o, none⟩)) := by rw [pA_def, funext (run_fld_pithlaw07_Bit_I b o), rA_value]
theorem run_fld_pithlaw07_Bit_One (b o : Nat) (w : World) : (oFld 38 (.pointer (some ⟨b, o, none⟩)) 1).run Try.prog w = .ok (.value (.pointer (some ⟨b, o + 1, none⟩))) w := by kernel_rfl
theorem pN_fld_pithlaw07_Bit_One (b o : Nat) : pN Try.prog (oFld 38 (.pointer (some ⟨b, o, none⟩)) 1) w K = K (.pointer (some ⟨b, o + 1, none⟩)) w := by rw [pN_def, run_fld_pithlaw07_Bit_One, rN_value]
theorem pA_fld_pithlaw07_Bit_One (b o : Nat) : pA Try.prog (oFld 38 (.pointer (some ⟨b, o, none⟩)) 1) J = J (.pointer (some ⟨b, o + 1, none⟩)) := by rw [pA_def, funext (run_fld_pithlaw07_Bit_One b o), rA_value]
theorem run_fld_pithlaw07_Sets_P (b o : Nat) (w : World) : (oFld 54 (.pointer (some ⟨b, o, none⟩)) 0).run Try.prog w = .ok (.value (.pointer (some ⟨b, o, none⟩))) w := by kernel_rfl
theorem pN_fld_pithlaw07_Sets_P (b o : Nat) : pN Try.prog (oFld 54 (.pointer (some ⟨b, o, none⟩)) 0) w K = K (.pointer (some ⟨b, o, none⟩)) w := by rw [pN_def, run_fld_pithlaw07_Sets_P, rN_value]
theorem pA_fld_pithlaw07_Sets_P (b o : Nat) : pA Try.prog (oFld 54 (.pointer (some ⟨b, o, none⟩)) 0) J = J (.pointer (some ⟨b, o, none⟩)) := by rw [pA_def, funext (run_fld_pithlaw07_Sets_P b o), rA_value]
theorem run_fld_pithlaw07_Sets_R (b o : Nat) (w : World) : (oFld 54 (.pointer (some ⟨b, o, none⟩)) 1).run Try.prog w = .ok (.value (.pointer (some ⟨b, o + 2, none⟩))) w := by kernel_rfl
theorem pN_fld_pithlaw07_Sets_R (b o : Nat) : pN Try.prog (oFld 54 (.pointer (some ⟨b, o, none⟩)) 1) w K = K (.pointer (some ⟨b, o + 2, none⟩)) w := by rw [pN_def, run_fld_pithlaw07_Sets_R, rN_value]
theorem pA_fld_pithlaw07_Sets_R (b o : Nat) : pA Try.prog (oFld 54 (.pointer (some ⟨b, o, none⟩)) 1) J = J (.pointer (some ⟨b, o + 2, none⟩)) := by rw [pA_def, funext (run_fld_pithlaw07_Sets_R b o), rA_value]
theorem run_fld_pithlaw07_Pair_E (b o : Nat) (w : World) : (oFld 60 (.pointer (some ⟨b, o, none⟩)) 0).run Try.prog w = .ok (.value (.pointer (some ⟨b, o, none⟩))) w := by kernel_rfl
theorem pN_fld_pithlaw07_Pair_E (b o : Nat) : pN Try.prog (oFld 60 (.pointer (some ⟨b, o, none⟩)) 0) w K = K (.pointer (some ⟨b, o, none⟩)) w := by rw [pN_def, run_fld_pithlaw07_Pair_E, rN_value]
theorem pA_fld_pithlaw07_Pair_E (b o : Nat) : pA Try.prog (oFld 60 (.pointer (some ⟨b, o, none⟩)) 0) J = J (.pointer (some ⟨b, o, none⟩)) := by rw [pA_def, funext (run_fld_pithlaw07_Pair_E b o), rA_value]
theorem run_fld_pithlaw07_Pair_R (b o : Nat) (w : World) : (oFld 60 (.pointer (some ⟨b, o, none⟩)) 1).run Try.prog w = .ok (.value (.pointer (some ⟨b, o + 1, none⟩))) w := by kernel_rfl
theorem pN_fld_pithlaw07_Pair_R (b o : Nat) : pN Try.prog (oFld 60 (.pointer (some ⟨b, o, none⟩)) 1) w K = K (.pointer (some ⟨b, o + 1, none⟩)) w := by rw [pN_def, run_fld_pithlaw07_Pair_R, rN_value]
theorem pA_fld_pithlaw07_Pair_R (b o : Nat) : pA Try.prog (oFld 60 (.pointer (some ⟨b, o, none⟩)) 1) J = J (.pointer (some ⟨b, o + 1, none⟩)) := by rw [pA_def, funext (run_fld_pithlaw07_Pair_R b o), rA_value]
theorem run_fld_pithlaw07_Op_Kind (b o : Nat) (w : World) : (oFld 64 (.pointer (some ⟨b, o, none⟩)) 0).run Try.prog w = .ok (.value (.pointer (some ⟨b, o, none⟩))) w := by kernel_rfl
theorem pN_fld_pithlaw07_Op_Kind (b o : Nat) : pN Try.prog (oFld 64 (.pointer (some ⟨b, o, none⟩)) 0) w K = K (.pointer (some ⟨b, o, none⟩)) w := by rw [pN_def, run_fld_pithlaw07_Op_Kind, rN_value]
theorem pA_fld_pithlaw07_Op_Kind (b o : Nat) : pA Try.prog (oFld 64 (.pointer (some ⟨b, o, none⟩)) 0) J = J (.pointer (some ⟨b, o, none⟩)) := by rw [pA_def, funext (run_fld_pithlaw07_Op_Kind b o), rA_value]
theorem run_fld_pithlaw07_Op_E (b o : Nat) (w : World) : (oFld 64 (.pointer (some ⟨b, o, none⟩)) 1).run Try.prog w = .ok (.value (.pointer (some ⟨b, o + 1, none⟩))) w := by kernel_rfl
theorem pN_fld_pithlaw07_Op_E (b o : Nat) : pN Try.prog (oFld 64 (.pointer (some ⟨b, o, none⟩)) 1) w K = K (.pointer (some ⟨b, o + 1, none⟩)) w := by rw [pN_def, run_fld_pithlaw07_Op_E, rN_value]
theorem pA_fld_pithlaw07_Op_E (b o : Nat) : pA Try.prog (oFld 64 (.pointer (some ⟨b, o, none⟩)) 1) J = J (.pointer (some ⟨b, o + 1, none⟩)) := by rw [pA_def, funext (run_fld_pithlaw07_Op_E b o), rA_value]
theorem run_fld_pithlaw07_Op_S (b o : Nat) (w : World) : (oFld 64 (.pointer (some ⟨b, o, none⟩)) 2).run Try.prog w = .ok (.value (.pointer (some ⟨b, o + 2, none⟩))) w := by kernel_rfl
theorem pN_fld_pithlaw07_Op_S (b o : Nat) : pN Try.prog (oFld 64 (.pointer (some ⟨b, o, none⟩)) 2) w K = K (.pointer (some ⟨b, o + 2, none⟩)) w := by rw [pN_def, run_fld_pithlaw07_Op_S, rN_value]
theorem pA_fld_pithlaw07_Op_S (b o : Nat) : pA Try.prog (oFld 64 (.pointer (some ⟨b, o, none⟩)) 2) J = J (.pointer (some ⟨b, o + 2, none⟩)) := by rw [pA_def, funext (run_fld_pithlaw07_Op_S b o), rA_value]
theorem run_fld_pithlaw07_Op_I (b o : Nat) (w : World) : (oFld 64 (.pointer (some ⟨b, o, none⟩)) 3).run Try.prog w = .ok (.value (.pointer (some ⟨b, o + 3, none⟩))) w := by kernel_rfl
theorem pN_fld_pithlaw07_Op_I (b o : Nat) : pN Try.prog (oFld 64 (.pointer (some ⟨b, o, none⟩)) 3) w K = K (.pointer (some ⟨b, o + 3, none⟩)) w := by rw [pN_def, run_fld_pithlaw07_Op_I, rN_value]
theorem pA_fld_pithlaw07_Op_I (b o : Nat) : pA Try.prog (oFld 64 (.pointer (some ⟨b, o, none⟩)) 3) J = J (.pointer (some ⟨b, o + 3, none⟩)) := by rw [pA_def, funext (run_fld_pithlaw07_Op_I b o), rA_value]
theorem run_fld_pithlaw07_Op_Bit (b o : Nat) (w : World) : (oFld 64 (.pointer (some ⟨b, o, none⟩)) 4).run Try.prog w = .ok (.value (.pointer (some ⟨b, o + 4, none⟩))) w := by kernel_rfl
theorem pN_fld_pithlaw07_Op_Bit (b o : Nat) : pN Try.prog (oFld 64 (.pointer (some ⟨b, o, none⟩)) 4) w K = K (.pointer (some ⟨b, o + 4, none⟩)) w := by rw [pN_def, run_fld_pithlaw07_Op_Bit, rN_value]
theorem pA_fld_pithlaw07_Op_Bit (b o : Nat) : pA Try.prog (oFld 64 (.pointer (some ⟨b, o, none⟩)) 4) J = J (.pointer (some ⟨b, o + 4, none⟩)) := by rw [pA_def, funext (run_fld_pithlaw07_Op_Bit b o), rA_value]
theorem run_fld_pithlaw07_Op_V (b o : Nat) (w : World) : (oFld 64 (.pointer (some ⟨b, o, none⟩)) 5).run Try.prog w = .ok (.value (.pointer (some ⟨b, o + 5, none⟩))) w := by kernel_rfl
theorem pN_fld_pithlaw07_Op_V (b o : Nat) : pN Try.prog (oFld 64 (.pointer (some ⟨b, o, none⟩)) 5) w K = K (.pointer (some ⟨b, o + 5, none⟩)) w := by rw [pN_def, run_fld_pithlaw07_Op_V, rN_value]
theorem pA_fld_pithlaw07_Op_V (b o : Nat) : pA Try.prog (oFld 64 (.pointer (some ⟨b, o, none⟩)) 5) J = J (.pointer (some ⟨b, o + 5, none⟩)) := by rw [pA_def, funext (run_fld_pithlaw07_Op_V b o), rA_value]
theorem run_fld_pithlaw07_Op_N (b o : Nat) (w : World) : (oFld 64 (.pointer (some ⟨b, o, none⟩)) 6).run Try.prog w = .ok (.value (.pointer (some ⟨b, o + 6, none⟩))) w := by kernel_rfl
theorem pN_fld_pithlaw07_Op_N (b o : Nat) : pN Try.prog (oFld 64 (.pointer (some ⟨b, o, none⟩)) 6) w K = K (.pointer (some ⟨b, o + 6, none⟩)) w := by rw [pN_def, run_fld_pithlaw07_Op_N, rN_value]
theorem pA_fld_pithlaw07_Op_N (b o : Nat) : pA Try.prog (oFld 64 (.pointer (some ⟨b, o, none⟩)) 6) J = J (.pointer (some ⟨b, o + 6, none⟩)) := by rw [pA_def, funext (run_fld_pithlaw07_Op_N b o), rA_value]
theorem run_fld_pithlaw07_Held_B (b o : Nat) (w : World) : (oFld 68 (.pointer (some ⟨b, o, none⟩)) 0).run Try.prog w = .ok (.value (.pointer (some ⟨b, o, none⟩))) w := by kernel_rfl
theorem pN_fld_pithlaw07_Held_B (b o : Nat) : pN Try.prog (oFld 68 (.pointer (some ⟨b, o, none⟩)) 0) w K = K (.pointer (some ⟨b, o, none⟩)) w := by rw [pN_def, run_fld_pithlaw07_Held_B, rN_value]
theorem pA_fld_pithlaw07_Held_B (b o : Nat) : pA Try.prog (oFld 68 (.pointer (some ⟨b, o, none⟩)) 0) J = J (.pointer (some ⟨b, o, none⟩)) := by rw [pA_def, funext (run_fld_pithlaw07_Held_B b o), rA_value]
theorem run_fld_pithlaw07_Held_N (b o : Nat) (w : World) : (oFld 68 (.pointer (some ⟨b, o, none⟩)) 1).run Try.prog w = .ok (.value (.pointer (some ⟨b, o + 1, none⟩))) w := by kernel_rfl
theorem pN_fld_pithlaw07_Held_N (b o : Nat) : pN Try.prog (oFld 68 (.pointer (some ⟨b, o, none⟩)) 1) w K = K (.pointer (some ⟨b, o + 1, none⟩)) w := by rw [pN_def, run_fld_pithlaw07_Held_N, rN_value]
theorem pA_fld_pithlaw07_Held_N (b o : Nat) : pA Try.prog (oFld 68 (.pointer (some ⟨b, o, none⟩)) 1) J = J (.pointer (some ⟨b, o + 1, none⟩)) := by rw [pA_def, funext (run_fld_pithlaw07_Held_N b o), rA_value]
theorem run_fld_pithlaw07_Held_Mark (b o : Nat) (w : World) : (oFld 68 (.pointer (some ⟨b, o, none⟩)) 2).run Try.prog w = .ok (.value (.pointer (some ⟨b, o + 2, none⟩))) w := by kernel_rfl
theorem pN_fld_pithlaw07_Held_Mark (b o : Nat) : pN Try.prog (oFld 68 (.pointer (some ⟨b, o, none⟩)) 2) w K = K (.pointer (some ⟨b, o + 2, none⟩)) w := by rw [pN_def, run_fld_pithlaw07_Held_Mark, rN_value]
theorem pA_fld_pithlaw07_Held_Mark (b o : Nat) : pA Try.prog (oFld 68 (.pointer (some ⟨b, o, none⟩)) 2) J = J (.pointer (some ⟨b, o + 2, none⟩)) := by rw [pA_def, funext (run_fld_pithlaw07_Held_Mark b o), rA_value]
theorem run_fld_pithlaw07_Held_Want (b o : Nat) (w : World) : (oFld 68 (.pointer (some ⟨b, o, none⟩)) 3).run Try.prog w = .ok (.value (.pointer (some ⟨b, o + 3, none⟩))) w := by kernel_rfl
theorem pN_fld_pithlaw07_Held_Want (b o : Nat) : pN Try.prog (oFld 68 (.pointer (some ⟨b, o, none⟩)) 3) w K = K (.pointer (some ⟨b, o + 3, none⟩)) w := by rw [pN_def, run_fld_pithlaw07_Held_Want, rN_value]
theorem pA_fld_pithlaw07_Held_Want (b o : Nat) : pA Try.prog (oFld 68 (.pointer (some ⟨b, o, none⟩)) 3) J = J (.pointer (some ⟨b, o + 3, none⟩)) := by rw [pA_def, funext (run_fld_pithlaw07_Held_Want b o), rA_value]
theorem run_fld_pithlaw07_Held_Kept (b o : Nat) (w : World) : (oFld 68 (.pointer (some ⟨b, o, none⟩)) 4).run Try.prog w = .ok (.value (.pointer (some ⟨b, o + 4, none⟩))) w := by kernel_rfl
theorem pN_fld_pithlaw07_Held_Kept (b o : Nat) : pN Try.prog (oFld 68 (.pointer (some ⟨b, o, none⟩)) 4) w K = K (.pointer (some ⟨b, o + 4, none⟩)) w := by rw [pN_def, run_fld_pithlaw07_Held_Kept, rN_value]
theorem pA_fld_pithlaw07_Held_Kept (b o : Nat) : pA Try.prog (oFld 68 (.pointer (some ⟨b, o, none⟩)) 4) J = J (.pointer (some ⟨b, o + 4, none⟩)) := by rw [pA_def, funext (run_fld_pithlaw07_Held_Kept b o), rA_value]
theorem run_fld_pithlaw08_Ask_Direct (b o : Nat) (w : World) : (oFld 87 (.pointer (some ⟨b, o, none⟩)) 0).run Try.prog w = .ok (.value (.pointer (some ⟨b, o, none⟩))) w := by kernel_rfl
theorem pN_fld_pithlaw08_Ask_Direct (b o : Nat) : pN Try.prog (oFld 87 (.pointer (some ⟨b, o, none⟩)) 0) w K = K (.pointer (some ⟨b, o, none⟩)) w := by rw [pN_def, run_fld_pithlaw08_Ask_Direct, rN_value]
theorem pA_fld_pithlaw08_Ask_Direct (b o : Nat) : pA Try.prog (oFld 87 (.pointer (some ⟨b, o, none⟩)) 0) J = J (.pointer (some ⟨b, o, none⟩)) := by rw [pA_def, funext (run_fld_pithlaw08_Ask_Direct b o), rA_value]
theorem run_fld_pithlaw08_Ask_I (b o : Nat) (w : World) : (oFld 87 (.pointer (some ⟨b, o, none⟩)) 1).run Try.prog w = .ok (.value (.pointer (some ⟨b, o + 1, none⟩))) w := by kernel_rfl
theorem pN_fld_pithlaw08_Ask_I (b o : Nat) : pN Try.prog (oFld 87 (.pointer (some ⟨b, o, none⟩)) 1) w K = K (.pointer (some ⟨b, o + 1, none⟩)) w := by rw [pN_def, run_fld_pithlaw08_Ask_I, rN_value]
theorem pA_fld_pithlaw08_Ask_I (b o : Nat) : pA Try.prog (oFld 87 (.pointer (some ⟨b, o, none⟩)) 1) J = J (.pointer (some ⟨b, o + 1, none⟩)) := by rw [pA_def, funext (run_fld_pithlaw08_Ask_I b o), rA_value]
theorem run_fld_pithlaw08_Ask_N (b o : Nat) (w : World) : (oFld 87 (.pointer (some ⟨b, o, none⟩)) 2).run Try.prog w = .ok (.value (.pointer (some ⟨b, o + 2, none⟩))) w := by kernel_rfl
theorem pN_fld_pithlaw08_Ask_N (b o : Nat) : pN Try.prog (oFld 87 (.pointer (some ⟨b, o, none⟩)) 2) w K = K (.pointer (some ⟨b, o + 2, none⟩)) w := by rw [pN_def, run_fld_pithlaw08_Ask_N, rN_value]
theorem pA_fld_pithlaw08_Ask_N (b o : Nat) : pA Try.prog (oFld 87 (.pointer (some ⟨b, o, none⟩)) 2) J = J (.pointer (some ⟨b, o + 2, none⟩)) := by rw [pA_def, funext (run_fld_pithlaw08_Ask_N b o), rA_value]
theorem run_fld_pithlaw08_Ask_V (b o : Nat) (w : World) : (oFld 87 (.pointer (some ⟨b, o, none⟩)) 3).run Try.prog w = .ok (.value (.pointer (some ⟨b, o + 3, none⟩))) w := by kernel_rfl
theorem pN_fld_pithlaw08_Ask_V (b o : Nat) : pN Try.prog (oFld 87 (.pointer (some ⟨b, o, none⟩)) 3) w K = K (.pointer (some ⟨b, o + 3, none⟩)) w := by rw [pN_def, run_fld_pithlaw08_Ask_V, rN_value]
theorem pA_fld_pithlaw08_Ask_V (b o : Nat) : pA Try.prog (oFld 87 (.pointer (some ⟨b, o, none⟩)) 3) J = J (.pointer (some ⟨b, o + 3, none⟩)) := by rw [pA_def, funext (run_fld_pithlaw08_Ask_V b o), rA_value]
theorem run_fld_pithlaw08_Plan_N (b o : Nat) (w : World) : (oFld 98 (.pointer (some ⟨b, o, none⟩)) 0).run Try.prog w = .ok (.value (.pointer (some ⟨b, o, none⟩))) w := by kernel_rfl
theorem pN_fld_pithlaw08_Plan_N (b o : Nat) : pN Try.prog (oFld 98 (.pointer (some ⟨b, o, none⟩)) 0) w K = K (.pointer (some ⟨b, o, none⟩)) w := by rw [pN_def, run_fld_pithlaw08_Plan_N, rN_value]
theorem pA_fld_pithlaw08_Plan_N (b o : Nat) : pA Try.prog (oFld 98 (.pointer (some ⟨b, o, none⟩)) 0) J = J (.pointer (some ⟨b, o, none⟩)) := by rw [pA_def, funext (run_fld_pithlaw08_Plan_N b o), rA_value]
theorem run_fld_pithlaw08_Plan_Asks (b o : Nat) (w : World) : (oFld 98 (.pointer (some ⟨b, o, none⟩)) 1).run Try.prog w = .ok (.value (.pointer (some ⟨b, o + 1, none⟩))) w := by kernel_rfl
theorem pN_fld_pithlaw08_Plan_Asks (b o : Nat) : pN Try.prog (oFld 98 (.pointer (some ⟨b, o, none⟩)) 1) w K = K (.pointer (some ⟨b, o + 1, none⟩)) w := by rw [pN_def, run_fld_pithlaw08_Plan_Asks, rN_value]
theorem pA_fld_pithlaw08_Plan_Asks (b o : Nat) : pA Try.prog (oFld 98 (.pointer (some ⟨b, o, none⟩)) 1) J = J (.pointer (some ⟨b, o + 1, none⟩)) := by rw [pA_def, funext (run_fld_pithlaw08_Plan_Asks b o), rA_value]
theorem run_fld_pithlaw09_Op_Kind (b o : Nat) (w : World) : (oFld 116 (.pointer (some ⟨b, o, none⟩)) 0).run Try.prog w = .ok (.value (.pointer (some ⟨b, o, none⟩))) w := by kernel_rfl
theorem pN_fld_pithlaw09_Op_Kind (b o : Nat) : pN Try.prog (oFld 116 (.pointer (some ⟨b, o, none⟩)) 0) w K = K (.pointer (some ⟨b, o, none⟩)) w := by rw [pN_def, run_fld_pithlaw09_Op_Kind, rN_value]
theorem pA_fld_pithlaw09_Op_Kind (b o : Nat) : pA Try.prog (oFld 116 (.pointer (some ⟨b, o, none⟩)) 0) J = J (.pointer (some ⟨b, o, none⟩)) := by rw [pA_def, funext (run_fld_pithlaw09_Op_Kind b o), rA_value]
theorem run_fld_pithlaw09_Op_Row (b o : Nat) (w : World) : (oFld 116 (.pointer (some ⟨b, o, none⟩)) 1).run Try.prog w = .ok (.value (.pointer (some ⟨b, o + 1, none⟩))) w := by kernel_rfl
theorem pN_fld_pithlaw09_Op_Row (b o : Nat) : pN Try.prog (oFld 116 (.pointer (some ⟨b, o, none⟩)) 1) w K = K (.pointer (some ⟨b, o + 1, none⟩)) w := by rw [pN_def, run_fld_pithlaw09_Op_Row, rN_value]
theorem pA_fld_pithlaw09_Op_Row (b o : Nat) : pA Try.prog (oFld 116 (.pointer (some ⟨b, o, none⟩)) 1) J = J (.pointer (some ⟨b, o + 1, none⟩)) := by rw [pA_def, funext (run_fld_pithlaw09_Op_Row b o), rA_value]
theorem run_fld_pithlaw09_Op_At (b o : Nat) (w : World) : (oFld 116 (.pointer (some ⟨b, o, none⟩)) 2).run Try.prog w = .ok (.value (.pointer (some ⟨b, o + 2, none⟩))) w := by kernel_rfl
theorem pN_fld_pithlaw09_Op_At (b o : Nat) : pN Try.prog (oFld 116 (.pointer (some ⟨b, o, none⟩)) 2) w K = K (.pointer (some ⟨b, o + 2, none⟩)) w := by rw [pN_def, run_fld_pithlaw09_Op_At, rN_value]
theorem pA_fld_pithlaw09_Op_At (b o : Nat) : pA Try.prog (oFld 116 (.pointer (some ⟨b, o, none⟩)) 2) J = J (.pointer (some ⟨b, o + 2, none⟩)) := by rw [pA_def, funext (run_fld_pithlaw09_Op_At b o), rA_value]
theorem run_fld_pithlaw09_Op_N (b o : Nat) (w : World) : (oFld 116 (.pointer (some ⟨b, o, none⟩)) 3).run Try.prog w = .ok (.value (.pointer (some ⟨b, o + 3, none⟩))) w := by kernel_rfl
theorem pN_fld_pithlaw09_Op_N (b o : Nat) : pN Try.prog (oFld 116 (.pointer (some ⟨b, o, none⟩)) 3) w K = K (.pointer (some ⟨b, o + 3, none⟩)) w := by rw [pN_def, run_fld_pithlaw09_Op_N, rN_value]
theorem pA_fld_pithlaw09_Op_N (b o : Nat) : pA Try.prog (oFld 116 (.pointer (some ⟨b, o, none⟩)) 3) J = J (.pointer (some ⟨b, o + 3, none⟩)) := by rw [pA_def, funext (run_fld_pithlaw09_Op_N b o), rA_value]
theorem run_fld_pithlaw09_Op_V (b o : Nat) (w : World) : (oFld 116 (.pointer (some ⟨b, o, none⟩)) 4).run Try.prog w = .ok (.value (.pointer (some ⟨b, o + 4, none⟩))) w := by kernel_rfl
theorem pN_fld_pithlaw09_Op_V (b o : Nat) : pN Try.prog (oFld 116 (.pointer (some ⟨b, o, none⟩)) 4) w K = K (.pointer (some ⟨b, o + 4, none⟩)) w := by rw [pN_def, run_fld_pithlaw09_Op_V, rN_value]
theorem pA_fld_pithlaw09_Op_V (b o : Nat) : pA Try.prog (oFld 116 (.pointer (some ⟨b, o, none⟩)) 4) J = J (.pointer (some ⟨b, o + 4, none⟩)) := by rw [pA_def, funext (run_fld_pithlaw09_Op_V b o), rA_value]
theorem run_fld_pithlaw09_rows_S (b o : Nat) (w : World) : (oFld 130 (.pointer (some ⟨b, o, none⟩)) 0).run Try.prog w = .ok (.value (.pointer (some ⟨b, o, none⟩))) w := by kernel_rfl
theorem pN_fld_pithlaw09_rows_S (b o : Nat) : pN Try.prog (oFld 130 (.pointer (some ⟨b, o, none⟩)) 0) w K = K (.pointer (some ⟨b, o, none⟩)) w := by rw [pN_def, run_fld_pithlaw09_rows_S, rN_value]
theorem pA_fld_pithlaw09_rows_S (b o : Nat) : pA Try.prog (oFld 130 (.pointer (some ⟨b, o, none⟩)) 0) J = J (.pointer (some ⟨b, o, none⟩)) := by rw [pA_def, funext (run_fld_pithlaw09_rows_S b o), rA_value]
theorem run_fld_pithlaw09_rows_R (b o : Nat) (w : World) : (oFld 130 (.pointer (some ⟨b, o, none⟩)) 1).run Try.prog w = .ok (.value (.pointer (some ⟨b, o + 1, none⟩))) w := by kernel_rfl
theorem pN_fld_pithlaw09_rows_R (b o : Nat) : pN Try.prog (oFld 130 (.pointer (some ⟨b, o, none⟩)) 1) w K = K (.pointer (some ⟨b, o + 1, none⟩)) w := by rw [pN_def, run_fld_pithlaw09_rows_R, rN_value]
theorem pA_fld_pithlaw09_rows_R (b o : Nat) : pA Try.prog (oFld 130 (.pointer (some ⟨b, o, none⟩)) 1) J = J (.pointer (some ⟨b, o + 1, none⟩)) := by rw [pA_def, funext (run_fld_pithlaw09_rows_R b o), rA_value]
theorem run_fld_rcenc_Encoder_low (b o : Nat) (w : World) : (oFld 133 (.pointer (some ⟨b, o, none⟩)) 0).run Try.prog w = .ok (.value (.pointer (some ⟨b, o, none⟩))) w := by kernel_rfl
theorem pN_fld_rcenc_Encoder_low (b o : Nat) : pN Try.prog (oFld 133 (.pointer (some ⟨b, o, none⟩)) 0) w K = K (.pointer (some ⟨b, o, none⟩)) w := by rw [pN_def, run_fld_rcenc_Encoder_low, rN_value]
theorem pA_fld_rcenc_Encoder_low (b o : Nat) : pA Try.prog (oFld 133 (.pointer (some ⟨b, o, none⟩)) 0) J = J (.pointer (some ⟨b, o, none⟩)) := by rw [pA_def, funext (run_fld_rcenc_Encoder_low b o), rA_value]
theorem run_fld_rcenc_Encoder_rng (b o : Nat) (w : World) : (oFld 133 (.pointer (some ⟨b, o, none⟩)) 1).run Try.prog w = .ok (.value (.pointer (some ⟨b, o + 1, none⟩))) w := by kernel_rfl
theorem pN_fld_rcenc_Encoder_rng (b o : Nat) : pN Try.prog (oFld 133 (.pointer (some ⟨b, o, none⟩)) 1) w K = K (.pointer (some ⟨b, o + 1, none⟩)) w := by rw [pN_def, run_fld_rcenc_Encoder_rng, rN_value]
theorem pA_fld_rcenc_Encoder_rng (b o : Nat) : pA Try.prog (oFld 133 (.pointer (some ⟨b, o, none⟩)) 1) J = J (.pointer (some ⟨b, o + 1, none⟩)) := by rw [pA_def, funext (run_fld_rcenc_Encoder_rng b o), rA_value]
theorem run_fld_rcenc_Encoder_held (b o : Nat) (w : World) : (oFld 133 (.pointer (some ⟨b, o, none⟩)) 2).run Try.prog w = .ok (.value (.pointer (some ⟨b, o + 2, none⟩))) w := by kernel_rfl
theorem pN_fld_rcenc_Encoder_held (b o : Nat) : pN Try.prog (oFld 133 (.pointer (some ⟨b, o, none⟩)) 2) w K = K (.pointer (some ⟨b, o + 2, none⟩)) w := by rw [pN_def, run_fld_rcenc_Encoder_held, rN_value]
theorem pA_fld_rcenc_Encoder_held (b o : Nat) : pA Try.prog (oFld 133 (.pointer (some ⟨b, o, none⟩)) 2) J = J (.pointer (some ⟨b, o + 2, none⟩)) := by rw [pA_def, funext (run_fld_rcenc_Encoder_held b o), rA_value]
theorem run_fld_rcenc_Encoder_wait (b o : Nat) (w : World) : (oFld 133 (.pointer (some ⟨b, o, none⟩)) 3).run Try.prog w = .ok (.value (.pointer (some ⟨b, o + 3, none⟩))) w := by kernel_rfl
theorem pN_fld_rcenc_Encoder_wait (b o : Nat) : pN Try.prog (oFld 133 (.pointer (some ⟨b, o, none⟩)) 3) w K = K (.pointer (some ⟨b, o + 3, none⟩)) w := by rw [pN_def, run_fld_rcenc_Encoder_wait, rN_value]
theorem pA_fld_rcenc_Encoder_wait (b o : Nat) : pA Try.prog (oFld 133 (.pointer (some ⟨b, o, none⟩)) 3) J = J (.pointer (some ⟨b, o + 3, none⟩)) := by rw [pA_def, funext (run_fld_rcenc_Encoder_wait b o), rA_value]
theorem run_fld_rcenc_Encoder_out (b o : Nat) (w : World) : (oFld 133 (.pointer (some ⟨b, o, none⟩)) 4).run Try.prog w = .ok (.value (.pointer (some ⟨b, o + 4, none⟩))) w := by kernel_rfl
theorem pN_fld_rcenc_Encoder_out (b o : Nat) : pN Try.prog (oFld 133 (.pointer (some ⟨b, o, none⟩)) 4) w K = K (.pointer (some ⟨b, o + 4, none⟩)) w := by rw [pN_def, run_fld_rcenc_Encoder_out, rN_value]
theorem pA_fld_rcenc_Encoder_out (b o : Nat) : pA Try.prog (oFld 133 (.pointer (some ⟨b, o, none⟩)) 4) J = J (.pointer (some ⟨b, o + 4, none⟩)) := by rw [pA_def, funext (run_fld_rcenc_Encoder_out b o), rA_value]
theorem run_fld_prob_Set_p (b o : Nat) (w : World) : (oFld 137 (.pointer (some ⟨b, o, none⟩)) 0).run Try.prog w = .ok (.value (.pointer (some ⟨b, o, none⟩))) w := by kernel_rfl
theorem pN_fld_prob_Set_p (b o : Nat) : pN Try.prog (oFld 137 (.pointer (some ⟨b, o, none⟩)) 0) w K = K (.pointer (some ⟨b, o, none⟩)) w := by rw [pN_def, run_fld_prob_Set_p, rN_value]
theorem pA_fld_prob_Set_p (b o : Nat) : pA Try.prog (oFld 137 (.pointer (some ⟨b, o, none⟩)) 0) J = J (.pointer (some ⟨b, o, none⟩)) := by rw [pA_def, funext (run_fld_prob_Set_p b o), rA_value]
theorem run_fld_pithref07_Encoder_L (b o : Nat) (w : World) : (oFld 139 (.pointer (some ⟨b, o, none⟩)) 0).run Try.prog w = .ok (.value (.pointer (some ⟨b, o, none⟩))) w := by kernel_rfl
theorem pN_fld_pithref07_Encoder_L (b o : Nat) : pN Try.prog (oFld 139 (.pointer (some ⟨b, o, none⟩)) 0) w K = K (.pointer (some ⟨b, o, none⟩)) w := by rw [pN_def, run_fld_pithref07_Encoder_L, rN_value]
theorem pA_fld_pithref07_Encoder_L (b o : Nat) : pA Try.prog (oFld 139 (.pointer (some ⟨b, o, none⟩)) 0) J = J (.pointer (some ⟨b, o, none⟩)) := by rw [pA_def, funext (run_fld_pithref07_Encoder_L b o), rA_value]
theorem run_fld_pithref07_Encoder_R (b o : Nat) (w : World) : (oFld 139 (.pointer (some ⟨b, o, none⟩)) 1).run Try.prog w = .ok (.value (.pointer (some ⟨b, o + 1, none⟩))) w := by kernel_rfl
theorem pN_fld_pithref07_Encoder_R (b o : Nat) : pN Try.prog (oFld 139 (.pointer (some ⟨b, o, none⟩)) 1) w K = K (.pointer (some ⟨b, o + 1, none⟩)) w := by rw [pN_def, run_fld_pithref07_Encoder_R, rN_value]
theorem pA_fld_pithref07_Encoder_R (b o : Nat) : pA Try.prog (oFld 139 (.pointer (some ⟨b, o, none⟩)) 1) J = J (.pointer (some ⟨b, o + 1, none⟩)) := by rw [pA_def, funext (run_fld_pithref07_Encoder_R b o), rA_value]
theorem run_fld_pithref07_Encoder_Shifts (b o : Nat) (w : World) : (oFld 139 (.pointer (some ⟨b, o, none⟩)) 2).run Try.prog w = .ok (.value (.pointer (some ⟨b, o + 2, none⟩))) w := by kernel_rfl
theorem pN_fld_pithref07_Encoder_Shifts (b o : Nat) : pN Try.prog (oFld 139 (.pointer (some ⟨b, o, none⟩)) 2) w K = K (.pointer (some ⟨b, o + 2, none⟩)) w := by rw [pN_def, run_fld_pithref07_Encoder_Shifts, rN_value]
theorem pA_fld_pithref07_Encoder_Shifts (b o : Nat) : pA Try.prog (oFld 139 (.pointer (some ⟨b, o, none⟩)) 2) J = J (.pointer (some ⟨b, o + 2, none⟩)) := by rw [pA_def, funext (run_fld_pithref07_Encoder_Shifts b o), rA_value]
theorem run_fld_pithref06_Set_N (b o : Nat) (w : World) : (oFld 145 (.pointer (some ⟨b, o, none⟩)) 0).run Try.prog w = .ok (.value (.pointer (some ⟨b, o, none⟩))) w := by kernel_rfl
theorem pN_fld_pithref06_Set_N (b o : Nat) : pN Try.prog (oFld 145 (.pointer (some ⟨b, o, none⟩)) 0) w K = K (.pointer (some ⟨b, o, none⟩)) w := by rw [pN_def, run_fld_pithref06_Set_N, rN_value]
theorem pA_fld_pithref06_Set_N (b o : Nat) : pA Try.prog (oFld 145 (.pointer (some ⟨b, o, none⟩)) 0) J = J (.pointer (some ⟨b, o, none⟩)) := by rw [pA_def, funext (run_fld_pithref06_Set_N b o), rA_value]
theorem run_fld_pithref06_Set_P (b o : Nat) (w : World) : (oFld 145 (.pointer (some ⟨b, o, none⟩)) 1).run Try.prog w = .ok (.value (.pointer (some ⟨b, o + 1, none⟩))) w := by kernel_rfl
theorem pN_fld_pithref06_Set_P (b o : Nat) : pN Try.prog (oFld 145 (.pointer (some ⟨b, o, none⟩)) 1) w K = K (.pointer (some ⟨b, o + 1, none⟩)) w := by rw [pN_def, run_fld_pithref06_Set_P, rN_value]
theorem pA_fld_pithref06_Set_P (b o : Nat) : pA Try.prog (oFld 145 (.pointer (some ⟨b, o, none⟩)) 1) J = J (.pointer (some ⟨b, o + 1, none⟩)) := by rw [pA_def, funext (run_fld_pithref06_Set_P b o), rA_value]
theorem run_fld_rcdec_place_read (b o : Nat) (w : World) : (oFld 147 (.pointer (some ⟨b, o, none⟩)) 0).run Try.prog w = .ok (.value (.pointer (some ⟨b, o, none⟩))) w := by kernel_rfl
theorem pN_fld_rcdec_place_read (b o : Nat) : pN Try.prog (oFld 147 (.pointer (some ⟨b, o, none⟩)) 0) w K = K (.pointer (some ⟨b, o, none⟩)) w := by rw [pN_def, run_fld_rcdec_place_read, rN_value]
theorem pA_fld_rcdec_place_read (b o : Nat) : pA Try.prog (oFld 147 (.pointer (some ⟨b, o, none⟩)) 0) J = J (.pointer (some ⟨b, o, none⟩)) := by rw [pA_def, funext (run_fld_rcdec_place_read b o), rA_value]
theorem run_fld_rcdec_place_rng (b o : Nat) (w : World) : (oFld 147 (.pointer (some ⟨b, o, none⟩)) 1).run Try.prog w = .ok (.value (.pointer (some ⟨b, o + 1, none⟩))) w := by kernel_rfl
theorem pN_fld_rcdec_place_rng (b o : Nat) : pN Try.prog (oFld 147 (.pointer (some ⟨b, o, none⟩)) 1) w K = K (.pointer (some ⟨b, o + 1, none⟩)) w := by rw [pN_def, run_fld_rcdec_place_rng, rN_value]
theorem pA_fld_rcdec_place_rng (b o : Nat) : pA Try.prog (oFld 147 (.pointer (some ⟨b, o, none⟩)) 1) J = J (.pointer (some ⟨b, o + 1, none⟩)) := by rw [pA_def, funext (run_fld_rcdec_place_rng b o), rA_value]
theorem run_fld_rcdec_place_now (b o : Nat) (w : World) : (oFld 147 (.pointer (some ⟨b, o, none⟩)) 2).run Try.prog w = .ok (.value (.pointer (some ⟨b, o + 2, none⟩))) w := by kernel_rfl
theorem pN_fld_rcdec_place_now (b o : Nat) : pN Try.prog (oFld 147 (.pointer (some ⟨b, o, none⟩)) 2) w K = K (.pointer (some ⟨b, o + 2, none⟩)) w := by rw [pN_def, run_fld_rcdec_place_now, rN_value]
theorem pA_fld_rcdec_place_now (b o : Nat) : pA Try.prog (oFld 147 (.pointer (some ⟨b, o, none⟩)) 2) J = J (.pointer (some ⟨b, o + 2, none⟩)) := by rw [pA_def, funext (run_fld_rcdec_place_now b o), rA_value]
theorem run_fld_rcdec_Decoder_b (b o : Nat) (w : World) : (oFld 149 (.pointer (some ⟨b, o, none⟩)) 0).run Try.prog w = .ok (.value (.pointer (some ⟨b, o, none⟩))) w := by kernel_rfl
theorem pN_fld_rcdec_Decoder_b (b o : Nat) : pN Try.prog (oFld 149 (.pointer (some ⟨b, o, none⟩)) 0) w K = K (.pointer (some ⟨b, o, none⟩)) w := by rw [pN_def, run_fld_rcdec_Decoder_b, rN_value]
theorem pA_fld_rcdec_Decoder_b (b o : Nat) : pA Try.prog (oFld 149 (.pointer (some ⟨b, o, none⟩)) 0) J = J (.pointer (some ⟨b, o, none⟩)) := by rw [pA_def, funext (run_fld_rcdec_Decoder_b b o), rA_value]
theorem run_fld_rcdec_Decoder_place (b o : Nat) (w : World) : (oFld 149 (.pointer (some ⟨b, o, none⟩)) 1).run Try.prog w = .ok (.value (.pointer (some ⟨b, o + 1, none⟩))) w := by kernel_rfl
theorem pN_fld_rcdec_Decoder_place (b o : Nat) : pN Try.prog (oFld 149 (.pointer (some ⟨b, o, none⟩)) 1) w K = K (.pointer (some ⟨b, o + 1, none⟩)) w := by rw [pN_def, run_fld_rcdec_Decoder_place, rN_value]
theorem pA_fld_rcdec_Decoder_place (b o : Nat) : pA Try.prog (oFld 149 (.pointer (some ⟨b, o, none⟩)) 1) J = J (.pointer (some ⟨b, o + 1, none⟩)) := by rw [pA_def, funext (run_fld_rcdec_Decoder_place b o), rA_value]
theorem run_fld_pithref08_Decoder_B (b o : Nat) (w : World) : (oFld 151 (.pointer (some ⟨b, o, none⟩)) 0).run Try.prog w = .ok (.value (.pointer (some ⟨b, o, none⟩))) w := by kernel_rfl
theorem pN_fld_pithref08_Decoder_B (b o : Nat) : pN Try.prog (oFld 151 (.pointer (some ⟨b, o, none⟩)) 0) w K = K (.pointer (some ⟨b, o, none⟩)) w := by rw [pN_def, run_fld_pithref08_Decoder_B, rN_value]
theorem pA_fld_pithref08_Decoder_B (b o : Nat) : pA Try.prog (oFld 151 (.pointer (some ⟨b, o, none⟩)) 0) J = J (.pointer (some ⟨b, o, none⟩)) := by rw [pA_def, funext (run_fld_pithref08_Decoder_B b o), rA_value]
theorem run_fld_pithref08_Decoder_Read (b o : Nat) (w : World) : (oFld 151 (.pointer (some ⟨b, o, none⟩)) 1).run Try.prog w = .ok (.value (.pointer (some ⟨b, o + 1, none⟩))) w := by kernel_rfl
theorem pN_fld_pithref08_Decoder_Read (b o : Nat) : pN Try.prog (oFld 151 (.pointer (some ⟨b, o, none⟩)) 1) w K = K (.pointer (some ⟨b, o + 1, none⟩)) w := by rw [pN_def, run_fld_pithref08_Decoder_Read, rN_value]
theorem pA_fld_pithref08_Decoder_Read (b o : Nat) : pA Try.prog (oFld 151 (.pointer (some ⟨b, o, none⟩)) 1) J = J (.pointer (some ⟨b, o + 1, none⟩)) := by rw [pA_def, funext (run_fld_pithref08_Decoder_Read b o), rA_value]
theorem run_fld_pithref08_Decoder_R (b o : Nat) (w : World) : (oFld 151 (.pointer (some ⟨b, o, none⟩)) 2).run Try.prog w = .ok (.value (.pointer (some ⟨b, o + 2, none⟩))) w := by kernel_rfl
theorem pN_fld_pithref08_Decoder_R (b o : Nat) : pN Try.prog (oFld 151 (.pointer (some ⟨b, o, none⟩)) 2) w K = K (.pointer (some ⟨b, o + 2, none⟩)) w := by rw [pN_def, run_fld_pithref08_Decoder_R, rN_value]
theorem pA_fld_pithref08_Decoder_R (b o : Nat) : pA Try.prog (oFld 151 (.pointer (some ⟨b, o, none⟩)) 2) J = J (.pointer (some ⟨b, o + 2, none⟩)) := by rw [pA_def, funext (run_fld_pithref08_Decoder_R b o), rA_value]
theorem run_fld_pithref08_Decoder_C (b o : Nat) (w : World) : (oFld 151 (.pointer (some ⟨b, o, none⟩)) 3).run Try.prog w = .ok (.value (.pointer (some ⟨b, o + 3, none⟩))) w := by kernel_rfl
theorem pN_fld_pithref08_Decoder_C (b o : Nat) : pN Try.prog (oFld 151 (.pointer (some ⟨b, o, none⟩)) 3) w K = K (.pointer (some ⟨b, o + 3, none⟩)) w := by rw [pN_def, run_fld_pithref08_Decoder_C, rN_value]
theorem pA_fld_pithref08_Decoder_C (b o : Nat) : pA Try.prog (oFld 151 (.pointer (some ⟨b, o, none⟩)) 3) J = J (.pointer (some ⟨b, o + 3, none⟩)) := by rw [pA_def, funext (run_fld_pithref08_Decoder_C b o), rA_value]
theorem run_fld_pithref09_Step_At (b o : Nat) (w : World) : (oFld 175 (.pointer (some ⟨b, o, none⟩)) 0).run Try.prog w = .ok (.value (.pointer (some ⟨b, o, none⟩))) w := by kernel_rfl
theorem pN_fld_pithref09_Step_At (b o : Nat) : pN Try.prog (oFld 175 (.pointer (some ⟨b, o, none⟩)) 0) w K = K (.pointer (some ⟨b, o, none⟩)) w := by rw [pN_def, run_fld_pithref09_Step_At, rN_value]
theorem pA_fld_pithref09_Step_At (b o : Nat) : pA Try.prog (oFld 175 (.pointer (some ⟨b, o, none⟩)) 0) J = J (.pointer (some ⟨b, o, none⟩)) := by rw [pA_def, funext (run_fld_pithref09_Step_At b o), rA_value]
theorem run_fld_pithref09_Step_Bit (b o : Nat) (w : World) : (oFld 175 (.pointer (some ⟨b, o, none⟩)) 1).run Try.prog w = .ok (.value (.pointer (some ⟨b, o + 1, none⟩))) w := by kernel_rfl
theorem pN_fld_pithref09_Step_Bit (b o : Nat) : pN Try.prog (oFld 175 (.pointer (some ⟨b, o, none⟩)) 1) w K = K (.pointer (some ⟨b, o + 1, none⟩)) w := by rw [pN_def, run_fld_pithref09_Step_Bit, rN_value]
theorem pA_fld_pithref09_Step_Bit (b o : Nat) : pA Try.prog (oFld 175 (.pointer (some ⟨b, o, none⟩)) 1) J = J (.pointer (some ⟨b, o + 1, none⟩)) := by rw [pA_def, funext (run_fld_pithref09_Step_Bit b o), rA_value]
theorem call_pithlaw07_RcencDirect (args : Array Value) (w : World) : (callFunc 3 args).run Try.prog w = .ok (.enter 3 args) w := Try.call3 args w
theorem call_pithlaw07_RcencOrder (args : Array Value) (w : World) : (callFunc 4 args).run Try.prog w = .ok (.enter 4 args) w := Try.call4 args w
theorem call_pithlaw07_RcencTurns (args : Array Value) (w : World) : (callFunc 5 args).run Try.prog w = .ok (.enter 5 args) w := Try.call5 args w
theorem call_pithlaw07_RcencPlays (args : Array Value) (w : World) : (callFunc 6 args).run Try.prog w = .ok (.enter 6 args) w := Try.call6 args w
theorem call_pithlaw07_RcencAsked (args : Array Value) (w : World) : (callFunc 7 args).run Try.prog w = .ok (.enter 7 args) w := Try.call7 args w
theorem call_pithlaw08_RcdecExact (args : Array Value) (w : World) : (callFunc 8 args).run Try.prog w = .ok (.enter 8 args) w := Try.call8 args w
theorem call_pithlaw08_RcdecBegins (args : Array Value) (w : World) : (callFunc 9 args).run Try.prog w = .ok (.enter 9 args) w := Try.call9 args w
theorem call_pithlaw08_RcdecApart (args : Array Value) (w : World) : (callFunc 10 args).run Try.prog w = .ok (.enter 10 args) w := Try.call10 args w
theorem call_pithlaw09_TreeCheaper (args : Array Value) (w : World) : (callFunc 11 args).run Try.prog w = .ok (.enter 11 args) w := Try.call11 args w
theorem call_pithlaw09_TreeTwoOrders (args : Array Value) (w : World) : (callFunc 12 args).run Try.prog w = .ok (.enter 12 args) w := Try.call12 args w
theorem call_pithlaw09_TreeCodes (args : Array Value) (w : World) : (callFunc 13 args).run Try.prog w = .ok (.enter 13 args) w := Try.call13 args w
theorem call_pithlaw08_RcdecBack (args : Array Value) (w : World) : (callFunc 14 args).run Try.prog w = .ok (.enter 14 args) w := Try.call14 args w
theorem call_pithlaw08_RcdecAgain (args : Array Value) (w : World) : (callFunc 15 args).run Try.prog w = .ok (.enter 15 args) w := Try.call15 args w
theorem call_pithlaw09_TreeReads (args : Array Value) (w : World) : (callFunc 16 args).run Try.prog w = .ok (.enter 16 args) w := Try.call16 args w
theorem call_pithlaw09_TreeBack (args : Array Value) (w : World) : (callFunc 17 args).run Try.prog w = .ok (.enter 17 args) w := Try.call17 args w
theorem call_rcenc_New (args : Array Value) (w : World) : (callFunc 18 args).run Try.prog w = .ok (.enter 18 args) w := Try.call18 args w
theorem call_rcenc_Encoder_Direct (args : Array Value) (w : World) : (callFunc 19 args).run Try.prog w = .ok (.enter 19 args) w := Try.call19 args w
theorem call_rcenc_Encoder_Bytes (args : Array Value) (w : World) : (callFunc 20 args).run Try.prog w = .ok (.enter 20 args) w := Try.call20 args w
theorem call_rcenc_Encoder_Size (args : Array Value) (w : World) : (callFunc 21 args).run Try.prog w = .ok (.enter 21 args) w := Try.call21 args w
theorem call_pithlaw07_begun (args : Array Value) (w : World) : (callFunc 22 args).run Try.prog w = .ok (.enter 22 args) w := Try.call22 args w
theorem call_pithlaw07_lays (args : Array Value) (w : World) : (callFunc 23 args).run Try.prog w = .ok (.enter 23 args) w := Try.call23 args w
theorem call_pithlaw07_number (args : Array Value) (w : World) : (callFunc 24 args).run Try.prog w = .ok (.enter 24 args) w := Try.call24 args w
theorem call_prob_Next (args : Array Value) (w : World) : (callFunc 25 args).run Try.prog w = .ok (.enter 25 args) w := Try.call25 args w
theorem call_pithlaw07_worth (args : Array Value) (w : World) : (callFunc 26 args).run Try.prog w = .ok (.enter 26 args) w := Try.call26 args w
theorem call_rcenc_Encoder_Bit (args : Array Value) (w : World) : (callFunc 27 args).run Try.prog w = .ok (.enter 27 args) w := Try.call27 args w
theorem call_prob_Set_At (args : Array Value) (w : World) : (callFunc 28 args).run Try.prog w = .ok (.enter 28 args) w := Try.call28 args w
theorem call_pithlaw07_sets (args : Array Value) (w : World) : (callFunc 29 args).run Try.prog w = .ok (.enter 29 args) w := Try.call29 args w
theorem call_pithref07_New (args : Array Value) (w : World) : (callFunc 30 args).run Try.prog w = .ok (.enter 30 args) w := Try.call30 args w
theorem call_pithref07_Encoder_Bit (args : Array Value) (w : World) : (callFunc 31 args).run Try.prog w = .ok (.enter 31 args) w := Try.call31 args w
theorem call_pithref07_Encoder_Direct (args : Array Value) (w : World) : (callFunc 32 args).run Try.prog w = .ok (.enter 32 args) w := Try.call32 args w
theorem call_pithref07_Encoder_Size (args : Array Value) (w : World) : (callFunc 33 args).run Try.prog w = .ok (.enter 33 args) w := Try.call33 args w
theorem call_pithref07_Encoder_Bytes (args : Array Value) (w : World) : (callFunc 34 args).run Try.prog w = .ok (.enter 34 args) w := Try.call34 args w
theorem call_pithlaw07_hold (args : Array Value) (w : World) : (callFunc 35 args).run Try.prog w = .ok (.enter 35 args) w := Try.call35 args w
theorem call_rcenc_Encoder_Fork (args : Array Value) (w : World) : (callFunc 36 args).run Try.prog w = .ok (.enter 36 args) w := Try.call36 args w
theorem call_pithref07_Encoder_Fork (args : Array Value) (w : World) : (callFunc 37 args).run Try.prog w = .ok (.enter 37 args) w := Try.call37 args w
theorem call_pithlaw07_Sets_alike (args : Array Value) (w : World) : (callFunc 38 args).run Try.prog w = .ok (.enter 38 args) w := Try.call38 args w
theorem call_pithlaw07_held (args : Array Value) (w : World) : (callFunc 39 args).run Try.prog w = .ok (.enter 39 args) w := Try.call39 args w
theorem call_prob_Set_Fork (args : Array Value) (w : World) : (callFunc 40 args).run Try.prog w = .ok (.enter 40 args) w := Try.call40 args w
theorem call_pithlaw08_known (args : Array Value) (w : World) : (callFunc 41 args).run Try.prog w = .ok (.enter 41 args) w := Try.call41 args w
theorem call_rcdec_New (args : Array Value) (w : World) : (callFunc 42 args).run Try.prog w = .ok (.enter 42 args) w := Try.call42 args w
theorem call_pithref08_New (args : Array Value) (w : World) : (callFunc 43 args).run Try.prog w = .ok (.enter 43 args) w := Try.call43 args w
theorem call_pithlaw08_num (args : Array Value) (w : World) : (callFunc 44 args).run Try.prog w = .ok (.enter 44 args) w := Try.call44 args w
theorem call_prob_New (args : Array Value) (w : World) : (callFunc 45 args).run Try.prog w = .ok (.enter 45 args) w := Try.call45 args w
theorem call_pithref06_New (args : Array Value) (w : World) : (callFunc 46 args).run Try.prog w = .ok (.enter 46 args) w := Try.call46 args w
theorem call_rcdec_Decoder_Direct (args : Array Value) (w : World) : (callFunc 47 args).run Try.prog w = .ok (.enter 47 args) w := Try.call47 args w
theorem call_pithref08_Decoder_Direct (args : Array Value) (w : World) : (callFunc 48 args).run Try.prog w = .ok (.enter 48 args) w := Try.call48 args w
theorem call_rcdec_Decoder_Bit (args : Array Value) (w : World) : (callFunc 49 args).run Try.prog w = .ok (.enter 49 args) w := Try.call49 args w
theorem call_pithref08_Decoder_Bit (args : Array Value) (w : World) : (callFunc 50 args).run Try.prog w = .ok (.enter 50 args) w := Try.call50 args w
theorem call_rcdec_Decoder_Used (args : Array Value) (w : World) : (callFunc 51 args).run Try.prog w = .ok (.enter 51 args) w := Try.call51 args w
theorem call_pithref08_Decoder_Used (args : Array Value) (w : World) : (callFunc 52 args).run Try.prog w = .ok (.enter 52 args) w := Try.call52 args w
theorem call_rcdec_Decoder_Done (args : Array Value) (w : World) : (callFunc 53 args).run Try.prog w = .ok (.enter 53 args) w := Try.call53 args w
theorem call_pithref08_Decoder_Done (args : Array Value) (w : World) : (callFunc 54 args).run Try.prog w = .ok (.enter 54 args) w := Try.call54 args w
theorem call_pithlaw08_alike (args : Array Value) (w : World) : (callFunc 55 args).run Try.prog w = .ok (.enter 55 args) w := Try.call55 args w
theorem call_pithlaw08_answered (args : Array Value) (w : World) : (callFunc 56 args).run Try.prog w = .ok (.enter 56 args) w := Try.call56 args w
theorem call_pithlaw09_fixed (args : Array Value) (w : World) : (callFunc 57 args).run Try.prog w = .ok (.enter 57 args) w := Try.call57 args w
theorem call_tree_Cost (args : Array Value) (w : World) : (callFunc 58 args).run Try.prog w = .ok (.enter 58 args) w := Try.call58 args w
theorem call_tree_CostBack (args : Array Value) (w : World) : (callFunc 59 args).run Try.prog w = .ok (.enter 59 args) w := Try.call59 args w
theorem call_tree_PutBack (args : Array Value) (w : World) : (callFunc 60 args).run Try.prog w = .ok (.enter 60 args) w := Try.call60 args w
theorem call_tree_Put (args : Array Value) (w : World) : (callFunc 61 args).run Try.prog w = .ok (.enter 61 args) w := Try.call61 args w
theorem call_prob_Set_Turn (args : Array Value) (w : World) : (callFunc 62 args).run Try.prog w = .ok (.enter 62 args) w := Try.call62 args w
theorem call_prob_Set_Len (args : Array Value) (w : World) : (callFunc 63 args).run Try.prog w = .ok (.enter 63 args) w := Try.call63 args w
theorem call_pithlaw09_turned (args : Array Value) (w : World) : (callFunc 64 args).run Try.prog w = .ok (.enter 64 args) w := Try.call64 args w
theorem call_pithlaw09_alike (args : Array Value) (w : World) : (callFunc 65 args).run Try.prog w = .ok (.enter 65 args) w := Try.call65 args w
theorem call_pithlaw09_made (args : Array Value) (w : World) : (callFunc 66 args).run Try.prog w = .ok (.enter 66 args) w := Try.call66 args w
theorem call_pithlaw09_rows_codes (args : Array Value) (w : World) : (callFunc 67 args).run Try.prog w = .ok (.enter 67 args) w := Try.call67 args w
theorem call_pithlaw09_rows_same (args : Array Value) (w : World) : (callFunc 68 args).run Try.prog w = .ok (.enter 68 args) w := Try.call68 args w
theorem call_pithlaw08_encoded (args : Array Value) (w : World) : (callFunc 69 args).run Try.prog w = .ok (.enter 69 args) w := Try.call69 args w
theorem call_pithlaw08_low (args : Array Value) (w : World) : (callFunc 70 args).run Try.prog w = .ok (.enter 70 args) w := Try.call70 args w
theorem call_pithlaw09_rows_reads (args : Array Value) (w : World) : (callFunc 71 args).run Try.prog w = .ok (.enter 71 args) w := Try.call71 args w
theorem call_pithlaw09_rows_given (args : Array Value) (w : World) : (callFunc 72 args).run Try.prog w = .ok (.enter 72 args) w := Try.call72 args w
theorem call_pithlaw09_rows_got (args : Array Value) (w : World) : (callFunc 73 args).run Try.prog w = .ok (.enter 73 args) w := Try.call73 args w
theorem call_rcenc_Encoder_widen (args : Array Value) (w : World) : (callFunc 74 args).run Try.prog w = .ok (.enter 74 args) w := Try.call74 args w
theorem call_rcenc_Encoder_shift (args : Array Value) (w : World) : (callFunc 75 args).run Try.prog w = .ok (.enter 75 args) w := Try.call75 args w
theorem call_prob_taken (args : Array Value) (w : World) : (callFunc 76 args).run Try.prog w = .ok (.enter 76 args) w := Try.call76 args w
theorem call_prob_Bound (args : Array Value) (w : World) : (callFunc 77 args).run Try.prog w = .ok (.enter 77 args) w := Try.call77 args w
theorem call_prob_Set_has (args : Array Value) (w : World) : (callFunc 78 args).run Try.prog w = .ok (.enter 78 args) w := Try.call78 args w
theorem call_pithref06_Set_At (args : Array Value) (w : World) : (callFunc 79 args).run Try.prog w = .ok (.enter 79 args) w := Try.call79 args w
theorem call_pithref07_Encoder_cut (args : Array Value) (w : World) : (callFunc 80 args).run Try.prog w = .ok (.enter 80 args) w := Try.call80 args w
theorem call_pithref06_Bound (args : Array Value) (w : World) : (callFunc 81 args).run Try.prog w = .ok (.enter 81 args) w := Try.call81 args w
theorem call_pithref06_Set_Turn (args : Array Value) (w : World) : (callFunc 82 args).run Try.prog w = .ok (.enter 82 args) w := Try.call82 args w
theorem call_pithref07_Encoder_adds (args : Array Value) (w : World) : (callFunc 83 args).run Try.prog w = .ok (.enter 83 args) w := Try.call83 args w
theorem call_pithref07_Encoder_widens (args : Array Value) (w : World) : (callFunc 84 args).run Try.prog w = .ok (.enter 84 args) w := Try.call84 args w
theorem call_pithlaw07_Held_written (args : Array Value) (w : World) : (callFunc 85 args).run Try.prog w = .ok (.enter 85 args) w := Try.call85 args w
theorem call_pithlaw07_Held_grown (args : Array Value) (w : World) : (callFunc 86 args).run Try.prog w = .ok (.enter 86 args) w := Try.call86 args w
theorem call_prob_Set_Reset (args : Array Value) (w : World) : (callFunc 87 args).run Try.prog w = .ok (.enter 87 args) w := Try.call87 args w
theorem call_pithref06_Set_Reset (args : Array Value) (w : World) : (callFunc 88 args).run Try.prog w = .ok (.enter 88 args) w := Try.call88 args w
theorem call_rcdec_Decoder_Direct_c1 (args : Array Value) (w : World) : (callFunc 89 args).run Try.prog w = .ok (.enter 89 args) w := Try.call89 args w
theorem call_rcdec_Decoder_back (args : Array Value) (w : World) : (callFunc 90 args).run Try.prog w = .ok (.enter 90 args) w := Try.call90 args w
theorem call_rcdec_Decoder_widen (args : Array Value) (w : World) : (callFunc 91 args).run Try.prog w = .ok (.enter 91 args) w := Try.call91 args w
theorem call_pithref08_Decoder_Fork (args : Array Value) (w : World) : (callFunc 92 args).run Try.prog w = .ok (.enter 92 args) w := Try.call92 args w
theorem call_pithref08_Decoder_widen (args : Array Value) (w : World) : (callFunc 93 args).run Try.prog w = .ok (.enter 93 args) w := Try.call93 args w
theorem call_rcdec_Decoder_Bit_c1 (args : Array Value) (w : World) : (callFunc 94 args).run Try.prog w = .ok (.enter 94 args) w := Try.call94 args w
theorem call_rcdec_Decoder_upper (args : Array Value) (w : World) : (callFunc 95 args).run Try.prog w = .ok (.enter 95 args) w := Try.call95 args w
theorem call_tree_cost (args : Array Value) (w : World) : (callFunc 96 args).run Try.prog w = .ok (.enter 96 args) w := Try.call96 args w
theorem call_tree_put (args : Array Value) (w : World) : (callFunc 97 args).run Try.prog w = .ok (.enter 97 args) w := Try.call97 args w
theorem call_pithlaw09_rows_of (args : Array Value) (w : World) : (callFunc 98 args).run Try.prog w = .ok (.enter 98 args) w := Try.call98 args w
theorem call_pithref09_Put (args : Array Value) (w : World) : (callFunc 99 args).run Try.prog w = .ok (.enter 99 args) w := Try.call99 args w
theorem call_pithref09_Cost (args : Array Value) (w : World) : (callFunc 100 args).run Try.prog w = .ok (.enter 100 args) w := Try.call100 args w
theorem call_tree_Get (args : Array Value) (w : World) : (callFunc 101 args).run Try.prog w = .ok (.enter 101 args) w := Try.call101 args w
theorem call_pithref09_Get (args : Array Value) (w : World) : (callFunc 102 args).run Try.prog w = .ok (.enter 102 args) w := Try.call102 args w
theorem call_tree_GetBack (args : Array Value) (w : World) : (callFunc 103 args).run Try.prog w = .ok (.enter 103 args) w := Try.call103 args w
theorem call_pithlaw09_bit (args : Array Value) (w : World) : (callFunc 104 args).run Try.prog w = .ok (.enter 104 args) w := Try.call104 args w
theorem call_pithref06_bound (args : Array Value) (w : World) : (callFunc 105 args).run Try.prog w = .ok (.enter 105 args) w := Try.call105 args w
theorem call_pithref06_Next (args : Array Value) (w : World) : (callFunc 106 args).run Try.prog w = .ok (.enter 106 args) w := Try.call106 args w
theorem call_tree_there (args : Array Value) (w : World) : (callFunc 107 args).run Try.prog w = .ok (.enter 107 args) w := Try.call107 args w
theorem call_tree_holds (args : Array Value) (w : World) : (callFunc 108 args).run Try.prog w = .ok (.enter 108 args) w := Try.call108 args w
theorem call_tree_down (args : Array Value) (w : World) : (callFunc 109 args).run Try.prog w = .ok (.enter 109 args) w := Try.call109 args w
theorem call_tree_cost_c1 (args : Array Value) (w : World) : (callFunc 110 args).run Try.prog w = .ok (.enter 110 args) w := Try.call110 args w
theorem call_tree_order (args : Array Value) (w : World) : (callFunc 111 args).run Try.prog w = .ok (.enter 111 args) w := Try.call111 args w
theorem call_prob_Cost (args : Array Value) (w : World) : (callFunc 112 args).run Try.prog w = .ok (.enter 112 args) w := Try.call112 args w
theorem call_tree_put_c1 (args : Array Value) (w : World) : (callFunc 113 args).run Try.prog w = .ok (.enter 113 args) w := Try.call113 args w
theorem call_pithref09_refused (args : Array Value) (w : World) : (callFunc 114 args).run Try.prog w = .ok (.enter 114 args) w := Try.call114 args w
theorem call_pithref09_Way (args : Array Value) (w : World) : (callFunc 115 args).run Try.prog w = .ok (.enter 115 args) w := Try.call115 args w
theorem call_pithref09_bits (args : Array Value) (w : World) : (callFunc 116 args).run Try.prog w = .ok (.enter 116 args) w := Try.call116 args w
theorem call_pithref06_Cost (args : Array Value) (w : World) : (callFunc 117 args).run Try.prog w = .ok (.enter 117 args) w := Try.call117 args w
theorem call_tree_get (args : Array Value) (w : World) : (callFunc 118 args).run Try.prog w = .ok (.enter 118 args) w := Try.call118 args w
theorem call_pithref09_There (args : Array Value) (w : World) : (callFunc 119 args).run Try.prog w = .ok (.enter 119 args) w := Try.call119 args w
theorem call_pithref09_two (args : Array Value) (w : World) : (callFunc 120 args).run Try.prog w = .ok (.enter 120 args) w := Try.call120 args w
theorem call_prob_costing (args : Array Value) (w : World) : (callFunc 121 args).run Try.prog w = .ok (.enter 121 args) w := Try.call121 args w
theorem call_pithref06_cost (args : Array Value) (w : World) : (callFunc 122 args).run Try.prog w = .ok (.enter 122 args) w := Try.call122 args w
theorem call_tree_get_c1 (args : Array Value) (w : World) : (callFunc 123 args).run Try.prog w = .ok (.enter 123 args) w := Try.call123 args w
attribute [local irreducible] pN oCall oCallV
theorem pc_pithlaw07_RcencDirect {args : List Value} (h : Calls Try.prog 3 args.toArray w (retP K)) : pN Try.prog (oCall 3 args) w K := pN_callQ (f := 3) (fun a w => call_pithlaw07_RcencDirect a w) h
theorem pc_pithlaw07_RcencOrder {args : List Value} (h : Calls Try.prog 4 args.toArray w (retP K)) : pN Try.prog (oCall 4 args) w K := pN_callQ (f := 4) (fun a w => call_pithlaw07_RcencOrder a w) h
theorem pc_pithlaw07_RcencTurns {args : List Value} (h : Calls Try.prog 5 args.toArray w (retP K)) : pN Try.prog (oCall 5 args) w K := pN_callQ (f := 5) (fun a w => call_pithlaw07_RcencTurns a w) h
theorem pc_pithlaw07_RcencPlays {args : List Value} (h : Calls Try.prog 6 args.toArray w (retP K)) : pN Try.prog (oCall 6 args) w K := pN_callQ (f := 6) (fun a w => call_pithlaw07_RcencPlays a w) h
theorem pc_pithlaw07_RcencAsked {args : List Value} (h : Calls Try.prog 7 args.toArray w (retP K)) : pN Try.prog (oCall 7 args) w K := pN_callQ (f := 7) (fun a w => call_pithlaw07_RcencAsked a w) h
theorem pc_pithlaw08_RcdecExact {args : List Value} (h : Calls Try.prog 8 args.toArray w (retP K)) : pN Try.prog (oCall 8 args) w K := pN_callQ (f := 8) (fun a w => call_pithlaw08_RcdecExact a w) h
theorem pc_pithlaw08_RcdecBegins {args : List Value} (h : Calls Try.prog 9 args.toArray w (retP K)) : pN Try.prog (oCall 9 args) w K := pN_callQ (f := 9) (fun a w => call_pithlaw08_RcdecBegins a w) h
theorem pc_pithlaw08_RcdecApart {args : List Value} (h : Calls Try.prog 10 args.toArray w (retP K)) : pN Try.prog (oCall 10 args) w K := pN_callQ (f := 10) (fun a w => call_pithlaw08_RcdecApart a w) h
theorem pc_pithlaw09_TreeCheaper {args : List Value} (h : Calls Try.prog 11 args.toArray w (retP K)) : pN Try.prog (oCall 11 args) w K := pN_callQ (f := 11) (fun a w => call_pithlaw09_TreeCheaper a w) h
theorem pc_pithlaw09_TreeTwoOrders {args : List Value} (h : Calls Try.prog 12 args.toArray w (retP K)) : pN Try.prog (oCall 12 args) w K := pN_callQ (f := 12) (fun a w => call_pithlaw09_TreeTwoOrders a w) h
theorem pc_pithlaw09_TreeCodes {args : List Value} (h : Calls Try.prog 13 args.toArray w (retP K)) : pN Try.prog (oCall 13 args) w K := pN_callQ (f := 13) (fun a w => call_pithlaw09_TreeCodes a w) h
theorem pc_pithlaw08_RcdecBack {args : List Value} (h : Calls Try.prog 14 args.toArray w (retP K)) : pN Try.prog (oCall 14 args) w K := pN_callQ (f := 14) (fun a w => call_pithlaw08_RcdecBack a w) h
theorem pc_pithlaw08_RcdecAgain {args : List Value} (h : Calls Try.prog 15 args.toArray w (retP K)) : pN Try.prog (oCall 15 args) w K := pN_callQ (f := 15) (fun a w => call_pithlaw08_RcdecAgain a w) h
theorem pc_pithlaw09_TreeReads {args : List Value} (h : Calls Try.prog 16 args.toArray w (retP K)) : pN Try.prog (oCall 16 args) w K := pN_callQ (f := 16) (fun a w => call_pithlaw09_TreeReads a w) h
theorem pc_pithlaw09_TreeBack {args : List Value} (h : Calls Try.prog 17 args.toArray w (retP K)) : pN Try.prog (oCall 17 args) w K := pN_callQ (f := 17) (fun a w => call_pithlaw09_TreeBack a w) h
theorem pc_rcenc_New {args : List Value} (h : Calls Try.prog 18 args.toArray w (retP K)) : pN Try.prog (oCall 18 args) w K := pN_callQ (f := 18) (fun a w => call_rcenc_New a w) h
theorem pc_rcenc_Encoder_Direct {args : List Value} (h : Calls Try.prog 19 args.toArray w (retP K)) : pN Try.prog (oCall 19 args) w K := pN_callQ (f := 19) (fun a w => call_rcenc_Encoder_Direct a w) h
theorem pc_rcenc_Encoder_Bytes {args : List Value} (h : Calls Try.prog 20 args.toArray w (retP K)) : pN Try.prog (oCall 20 args) w K := pN_callQ (f := 20) (fun a w => call_rcenc_Encoder_Bytes a w) h
theorem pc_rcenc_Encoder_Size {args : List Value} (h : Calls Try.prog 21 args.toArray w (retP K)) : pN Try.prog (oCall 21 args) w K := pN_callQ (f := 21) (fun a w => call_rcenc_Encoder_Size a w) h
theorem pc_pithlaw07_begun {args : List Value} (h : Calls Try.prog 22 args.toArray w (retP K)) : pN Try.prog (oCall 22 args) w K := pN_callQ (f := 22) (fun a w => call_pithlaw07_begun a w) h
theorem pc_pithlaw07_lays {args : List Value} (h : Calls Try.prog 23 args.toArray w (retP K)) : pN Try.prog (oCall 23 args) w K := pN_callQ (f := 23) (fun a w => call_pithlaw07_lays a w) h
theorem pc_pithlaw07_number {args : List Value} (h : Calls Try.prog 24 args.toArray w (retP K)) : pN Try.prog (oCall 24 args) w K := pN_callQ (f := 24) (fun a w => call_pithlaw07_number a w) h
theorem pc_prob_Next {args : List Value} (h : Calls Try.prog 25 args.toArray w (retP K)) : pN Try.prog (oCall 25 args) w K := pN_callQ (f := 25) (fun a w => call_prob_Next a w) h
theorem pc_pithlaw07_worth {args : List Value} (h : Calls Try.prog 26 args.toArray w (retP K)) : pN Try.prog (oCall 26 args) w K := pN_callQ (f := 26) (fun a w => call_pithlaw07_worth a w) h
theorem pc_rcenc_Encoder_Bit {args : List Value} (h : Calls Try.prog 27 args.toArray w (retP K)) : pN Try.prog (oCall 27 args) w K := pN_callQ (f := 27) (fun a w => call_rcenc_Encoder_Bit a w) h
theorem pc_prob_Set_At {args : List Value} (h : Calls Try.prog 28 args.toArray w (retP K)) : pN Try.prog (oCall 28 args) w K := pN_callQ (f := 28) (fun a w => call_prob_Set_At a w) h
theorem pc_pithlaw07_sets {args : List Value} (h : Calls Try.prog 29 args.toArray w (retP K)) : pN Try.prog (oCall 29 args) w K := pN_callQ (f := 29) (fun a w => call_pithlaw07_sets a w) h
theorem pc_pithref07_New {args : List Value} (h : Calls Try.prog 30 args.toArray w (retP K)) : pN Try.prog (oCall 30 args) w K := pN_callQ (f := 30) (fun a w => call_pithref07_New a w) h
theorem pc_pithref07_Encoder_Bit {args : List Value} (h : Calls Try.prog 31 args.toArray w (retP K)) : pN Try.prog (oCall 31 args) w K := pN_callQ (f := 31) (fun a w => call_pithref07_Encoder_Bit a w) h
theorem pc_pithref07_Encoder_Direct {args : List Value} (h : Calls Try.prog 32 args.toArray w (retP K)) : pN Try.prog (oCall 32 args) w K := pN_callQ (f := 32) (fun a w => call_pithref07_Encoder_Direct a w) h
theorem pc_pithref07_Encoder_Size {args : List Value} (h : Calls Try.prog 33 args.toArray w (retP K)) : pN Try.prog (oCall 33 args) w K := pN_callQ (f := 33) (fun a w => call_pithref07_Encoder_Size a w) h
theorem pc_pithref07_Encoder_Bytes {args : List Value} (h : Calls Try.prog 34 args.toArray w (retP K)) : pN Try.prog (oCall 34 args) w K := pN_callQ (f := 34) (fun a w => call_pithref07_Encoder_Bytes a w) h
theorem pc_pithlaw07_hold {args : List Value} (h : Calls Try.prog 35 args.toArray w (retP K)) : pN Try.prog (oCall 35 args) w K := pN_callQ (f := 35) (fun a w => call_pithlaw07_hold a w) h
theorem pc_rcenc_Encoder_Fork {args : List Value} (h : Calls Try.prog 36 args.toArray w (retP K)) : pN Try.prog (oCall 36 args) w K := pN_callQ (f := 36) (fun a w => call_rcenc_Encoder_Fork a w) h
theorem pc_pithref07_Encoder_Fork {args : List Value} (h : Calls Try.prog 37 args.toArray w (retP K)) : pN Try.prog (oCall 37 args) w K := pN_callQ (f := 37) (fun a w => call_pithref07_Encoder_Fork a w) h
theorem pc_pithlaw07_Sets_alike {args : List Value} (h : Calls Try.prog 38 args.toArray w (retP K)) : pN Try.prog (oCall 38 args) w K := pN_callQ (f := 38) (fun a w => call_pithlaw07_Sets_alike a w) h
theorem pc_pithlaw07_held {args : List Value} (h : Calls Try.prog 39 args.toArray w (retP K)) : pN Try.prog (oCall 39 args) w K := pN_callQ (f := 39) (fun a w => call_pithlaw07_held a w) h
theorem pc_prob_Set_Fork {args : List Value} (h : Calls Try.prog 40 args.toArray w (retP K)) : pN Try.prog (oCall 40 args) w K := pN_callQ (f := 40) (fun a w => call_prob_Set_Fork a w) h
theorem pc_pithlaw08_known {args : List Value} (h : Calls Try.prog 41 args.toArray w (retP K)) : pN Try.prog (oCall 41 args) w K := pN_callQ (f := 41) (fun a w => call_pithlaw08_known a w) h
theorem pc_rcdec_New {args : List Value} (h : Calls Try.prog 42 args.toArray w (retP K)) : pN Try.prog (oCall 42 args) w K := pN_callQ (f := 42) (fun a w => call_rcdec_New a w) h
theorem pc_pithref08_New {args : List Value} (h : Calls Try.prog 43 args.toArray w (retP K)) : pN Try.prog (oCall 43 args) w K := pN_callQ (f := 43) (fun a w => call_pithref08_New a w) h
theorem pc_pithlaw08_num {args : List Value} (h : Calls Try.prog 44 args.toArray w (retP K)) : pN Try.prog (oCall 44 args) w K := pN_callQ (f := 44) (fun a w => call_pithlaw08_num a w) h
theorem pc_prob_New {args : List Value} (h : Calls Try.prog 45 args.toArray w (retP K)) : pN Try.prog (oCall 45 args) w K := pN_callQ (f := 45) (fun a w => call_prob_New a w) h
theorem pc_pithref06_New {args : List Value} (h : Calls Try.prog 46 args.toArray w (retP K)) : pN Try.prog (oCall 46 args) w K := pN_callQ (f := 46) (fun a w => call_pithref06_New a w) h
theorem pc_rcdec_Decoder_Direct {args : List Value} (h : Calls Try.prog 47 args.toArray w (retP K)) : pN Try.prog (oCall 47 args) w K := pN_callQ (f := 47) (fun a w => call_rcdec_Decoder_Direct a w) h
theorem pc_pithref08_Decoder_Direct {args : List Value} (h : Calls Try.prog 48 args.toArray w (retP K)) : pN Try.prog (oCall 48 args) w K := pN_callQ (f := 48) (fun a w => call_pithref08_Decoder_Direct a w) h
theorem pc_rcdec_Decoder_Bit {args : List Value} (h : Calls Try.prog 49 args.toArray w (retP K)) : pN Try.prog (oCall 49 args) w K := pN_callQ (f := 49) (fun a w => call_rcdec_Decoder_Bit a w) h
theorem pc_pithref08_Decoder_Bit {args : List Value} (h : Calls Try.prog 50 args.toArray w (retP K)) : pN Try.prog (oCall 50 args) w K := pN_callQ (f := 50) (fun a w => call_pithref08_Decoder_Bit a w) h
theorem pc_rcdec_Decoder_Used {args : List Value} (h : Calls Try.prog 51 args.toArray w (retP K)) : pN Try.prog (oCall 51 args) w K := pN_callQ (f := 51) (fun a w => call_rcdec_Decoder_Used a w) h
theorem pc_pithref08_Decoder_Used {args : List Value} (h : Calls Try.prog 52 args.toArray w (retP K)) : pN Try.prog (oCall 52 args) w K := pN_callQ (f := 52) (fun a w => call_pithref08_Decoder_Used a w) h
theorem pc_rcdec_Decoder_Done {args : List Value} (h : Calls Try.prog 53 args.toArray w (retP K)) : pN Try.prog (oCall 53 args) w K := pN_callQ (f := 53) (fun a w => call_rcdec_Decoder_Done a w) h
theorem pc_pithref08_Decoder_Done {args : List Value} (h : Calls Try.prog 54 args.toArray w (retP K)) : pN Try.prog (oCall 54 args) w K := pN_callQ (f := 54) (fun a w => call_pithref08_Decoder_Done a w) h
theorem pc_pithlaw08_alike {args : List Value} (h : Calls Try.prog 55 args.toArray w (retP K)) : pN Try.prog (oCall 55 args) w K := pN_callQ (f := 55) (fun a w => call_pithlaw08_alike a w) h
theorem pc_pithlaw08_answered {args : List Value} (h : Calls Try.prog 56 args.toArray w (retP K)) : pN Try.prog (oCall 56 args) w K := pN_callQ (f := 56) (fun a w => call_pithlaw08_answered a w) h
theorem pc_pithlaw09_fixed {args : List Value} (h : Calls Try.prog 57 args.toArray w (retP K)) : pN Try.prog (oCall 57 args) w K := pN_callQ (f := 57) (fun a w => call_pithlaw09_fixed a w) h
theorem pc_tree_Cost {args : List Value} (h : Calls Try.prog 58 args.toArray w (retP K)) : pN Try.prog (oCall 58 args) w K := pN_callQ (f := 58) (fun a w => call_tree_Cost a w) h
theorem pc_tree_CostBack {args : List Value} (h : Calls Try.prog 59 args.toArray w (retP K)) : pN Try.prog (oCall 59 args) w K := pN_callQ (f := 59) (fun a w => call_tree_CostBack a w) h
theorem pc_tree_PutBack {args : List Value} (h : Calls Try.prog 60 args.toArray w (retP K)) : pN Try.prog (oCall 60 args) w K := pN_callQ (f := 60) (fun a w => call_tree_PutBack a w) h
theorem pc_tree_Put {args : List Value} (h : Calls Try.prog 61 args.toArray w (retP K)) : pN Try.prog (oCall 61 args) w K := pN_callQ (f := 61) (fun a w => call_tree_Put a w) h
theorem pc_prob_Set_Turn {args : List Value} (h : Calls Try.prog 62 args.toArray w (retP K)) : pN Try.prog (oCall 62 args) w K := pN_callQ (f := 62) (fun a w => call_prob_Set_Turn a w) h
theorem pc_prob_Set_Len {args : List Value} (h : Calls Try.prog 63 args.toArray w (retP K)) : pN Try.prog (oCall 63 args) w K := pN_callQ (f := 63) (fun a w => call_prob_Set_Len a w) h
theorem pc_pithlaw09_turned {args : List Value} (h : Calls Try.prog 64 args.toArray w (retP K)) : pN Try.prog (oCall 64 args) w K := pN_callQ (f := 64) (fun a w => call_pithlaw09_turned a w) h
theorem pc_pithlaw09_alike {args : List Value} (h : Calls Try.prog 65 args.toArray w (retP K)) : pN Try.prog (oCall 65 args) w K := pN_callQ (f := 65) (fun a w => call_pithlaw09_alike a w) h
theorem pc_pithlaw09_made {args : List Value} (h : Calls Try.prog 66 args.toArray w (retP K)) : pN Try.prog (oCall 66 args) w K := pN_callQ (f := 66) (fun a w => call_pithlaw09_made a w) h
theorem pc_pithlaw09_rows_codes {args : List Value} (h : Calls Try.prog 67 args.toArray w (retP K)) : pN Try.prog (oCall 67 args) w K := pN_callQ (f := 67) (fun a w => call_pithlaw09_rows_codes a w) h
theorem pc_pithlaw09_rows_same {args : List Value} (h : Calls Try.prog 68 args.toArray w (retP K)) : pN Try.prog (oCall 68 args) w K := pN_callQ (f := 68) (fun a w => call_pithlaw09_rows_same a w) h
theorem pc_pithlaw08_encoded {args : List Value} (h : Calls Try.prog 69 args.toArray w (retP K)) : pN Try.prog (oCall 69 args) w K := pN_callQ (f := 69) (fun a w => call_pithlaw08_encoded a w) h
theorem pc_pithlaw08_low {args : List Value} (h : Calls Try.prog 70 args.toArray w (retP K)) : pN Try.prog (oCall 70 args) w K := pN_callQ (f := 70) (fun a w => call_pithlaw08_low a w) h
theorem pc_pithlaw09_rows_reads {args : List Value} (h : Calls Try.prog 71 args.toArray w (retP K)) : pN Try.prog (oCall 71 args) w K := pN_callQ (f := 71) (fun a w => call_pithlaw09_rows_reads a w) h
theorem pc_pithlaw09_rows_given {args : List Value} (h : Calls Try.prog 72 args.toArray w (retP K)) : pN Try.prog (oCall 72 args) w K := pN_callQ (f := 72) (fun a w => call_pithlaw09_rows_given a w) h
theorem pc_pithlaw09_rows_got {args : List Value} (h : Calls Try.prog 73 args.toArray w (retP K)) : pN Try.prog (oCall 73 args) w K := pN_callQ (f := 73) (fun a w => call_pithlaw09_rows_got a w) h
theorem pc_rcenc_Encoder_widen {args : List Value} (h : Calls Try.prog 74 args.toArray w (retP K)) : pN Try.prog (oCall 74 args) w K := pN_callQ (f := 74) (fun a w => call_rcenc_Encoder_widen a w) h
theorem pc_rcenc_Encoder_shift {args : List Value} (h : Calls Try.prog 75 args.toArray w (retP K)) : pN Try.prog (oCall 75 args) w K := pN_callQ (f := 75) (fun a w => call_rcenc_Encoder_shift a w) h
theorem pc_prob_taken {args : List Value} (h : Calls Try.prog 76 args.toArray w (retP K)) : pN Try.prog (oCall 76 args) w K := pN_callQ (f := 76) (fun a w => call_prob_taken a w) h
theorem pc_prob_Bound {args : List Value} (h : Calls Try.prog 77 args.toArray w (retP K)) : pN Try.prog (oCall 77 args) w K := pN_callQ (f := 77) (fun a w => call_prob_Bound a w) h
theorem pc_prob_Set_has {args : List Value} (h : Calls Try.prog 78 args.toArray w (retP K)) : pN Try.prog (oCall 78 args) w K := pN_callQ (f := 78) (fun a w => call_prob_Set_has a w) h
theorem pc_pithref06_Set_At {args : List Value} (h : Calls Try.prog 79 args.toArray w (retP K)) : pN Try.prog (oCall 79 args) w K := pN_callQ (f := 79) (fun a w => call_pithref06_Set_At a w) h
theorem pc_pithref07_Encoder_cut {args : List Value} (h : Calls Try.prog 80 args.toArray w (retP K)) : pN Try.prog (oCall 80 args) w K := pN_callQ (f := 80) (fun a w => call_pithref07_Encoder_cut a w) h
theorem pc_pithref06_Bound {args : List Value} (h : Calls Try.prog 81 args.toArray w (retP K)) : pN Try.prog (oCall 81 args) w K := pN_callQ (f := 81) (fun a w => call_pithref06_Bound a w) h
theorem pc_pithref06_Set_Turn {args : List Value} (h : Calls Try.prog 82 args.toArray w (retP K)) : pN Try.prog (oCall 82 args) w K := pN_callQ (f := 82) (fun a w => call_pithref06_Set_Turn a w) h
theorem pc_pithref07_Encoder_adds {args : List Value} (h : Calls Try.prog 83 args.toArray w (retP K)) : pN Try.prog (oCall 83 args) w K := pN_callQ (f := 83) (fun a w => call_pithref07_Encoder_adds a w) h
theorem pc_pithref07_Encoder_widens {args : List Value} (h : Calls Try.prog 84 args.toArray w (retP K)) : pN Try.prog (oCall 84 args) w K := pN_callQ (f := 84) (fun a w => call_pithref07_Encoder_widens a w) h
theorem pc_pithlaw07_Held_written {args : List Value} (h : Calls Try.prog 85 args.toArray w (retP K)) : pN Try.prog (oCall 85 args) w K := pN_callQ (f := 85) (fun a w => call_pithlaw07_Held_written a w) h
theorem pc_pithlaw07_Held_grown {args : List Value} (h : Calls Try.prog 86 args.toArray w (retP K)) : pN Try.prog (oCall 86 args) w K := pN_callQ (f := 86) (fun a w => call_pithlaw07_Held_grown a w) h
theorem pc_prob_Set_Reset {args : List Value} (h : Calls Try.prog 87 args.toArray w (retP K)) : pN Try.prog (oCall 87 args) w K := pN_callQ (f := 87) (fun a w => call_prob_Set_Reset a w) h
theorem pc_pithref06_Set_Reset {args : List Value} (h : Calls Try.prog 88 args.toArray w (retP K)) : pN Try.prog (oCall 88 args) w K := pN_callQ (f := 88) (fun a w => call_pithref06_Set_Reset a w) h
theorem pc_rcdec_Decoder_Direct_c1 {args : List Value} (h : Calls Try.prog 89 args.toArray w (retP K)) : pN Try.prog (oCall 89 args) w K := pN_callQ (f := 89) (fun a w => call_rcdec_Decoder_Direct_c1 a w) h
theorem pv_rcdec_Decoder_Direct_c1 {cap args : List Value} (h : Calls Try.prog 89 (args ++ cap).toArray w (retP K)) : pN Try.prog (oCallV (.func (.func 89) [].toArray cap.toArray) args) w K := pN_callV (f := 89) (fun a w => call_rcdec_Decoder_Direct_c1 a w) h
theorem pc_rcdec_Decoder_back {args : List Value} (h : Calls Try.prog 90 args.toArray w (retP K)) : pN Try.prog (oCall 90 args) w K := pN_callQ (f := 90) (fun a w => call_rcdec_Decoder_back a w) h
theorem pc_rcdec_Decoder_widen {args : List Value} (h : Calls Try.prog 91 args.toArray w (retP K)) : pN Try.prog (oCall 91 args) w K := pN_callQ (f := 91) (fun a w => call_rcdec_Decoder_widen a w) h
theorem pc_pithref08_Decoder_Fork {args : List Value} (h : Calls Try.prog 92 args.toArray w (retP K)) : pN Try.prog (oCall 92 args) w K := pN_callQ (f := 92) (fun a w => call_pithref08_Decoder_Fork a w) h
theorem pc_pithref08_Decoder_widen {args : List Value} (h : Calls Try.prog 93 args.toArray w (retP K)) : pN Try.prog (oCall 93 args) w K := pN_callQ (f := 93) (fun a w => call_pithref08_Decoder_widen a w) h
theorem pc_rcdec_Decoder_Bit_c1 {args : List Value} (h : Calls Try.prog 94 args.toArray w (retP K)) : pN Try.prog (oCall 94 args) w K := pN_callQ (f := 94) (fun a w => call_rcdec_Decoder_Bit_c1 a w) h
theorem pv_rcdec_Decoder_Bit_c1 {cap args : List Value} (h : Calls Try.prog 94 (args ++ cap).toArray w (retP K)) : pN Try.prog (oCallV (.func (.func 94) [].toArray cap.toArray) args) w K := pN_callV (f := 94) (fun a w => call_rcdec_Decoder_Bit_c1 a w) h
theorem pc_rcdec_Decoder_upper {args : List Value} (h : Calls Try.prog 95 args.toArray w (retP K)) : pN Try.prog (oCall 95 args) w K := pN_callQ (f := 95) (fun a w => call_rcdec_Decoder_upper a w) h
theorem pc_tree_cost {args : List Value} (h : Calls Try.prog 96 args.toArray w (retP K)) : pN Try.prog (oCall 96 args) w K := pN_callQ (f := 96) (fun a w => call_tree_cost a w) h
theorem pc_tree_put {args : List Value} (h : Calls Try.prog 97 args.toArray w (retP K)) : pN Try.prog (oCall 97 args) w K := pN_callQ (f := 97) (fun a w => call_tree_put a w) h
theorem pc_pithlaw09_rows_of {args : List Value} (h : Calls Try.prog 98 args.toArray w (retP K)) : pN Try.prog (oCall 98 args) w K := pN_callQ (f := 98) (fun a w => call_pithlaw09_rows_of a w) h
theorem pc_pithref09_Put {args : List Value} (h : Calls Try.prog 99 args.toArray w (retP K)) : pN Try.prog (oCall 99 args) w K := pN_callQ (f := 99) (fun a w => call_pithref09_Put a w) h
theorem pc_pithref09_Cost {args : List Value} (h : Calls Try.prog 100 args.toArray w (retP K)) : pN Try.prog (oCall 100 args) w K := pN_callQ (f := 100) (fun a w => call_pithref09_Cost a w) h
theorem pc_tree_Get {args : List Value} (h : Calls Try.prog 101 args.toArray w (retP K)) : pN Try.prog (oCall 101 args) w K := pN_callQ (f := 101) (fun a w => call_tree_Get a w) h
theorem pc_pithref09_Get {args : List Value} (h : Calls Try.prog 102 args.toArray w (retP K)) : pN Try.prog (oCall 102 args) w K := pN_callQ (f := 102) (fun a w => call_pithref09_Get a w) h
theorem pc_tree_GetBack {args : List Value} (h : Calls Try.prog 103 args.toArray w (retP K)) : pN Try.prog (oCall 103 args) w K := pN_callQ (f := 103) (fun a w => call_tree_GetBack a w) h
theorem pc_pithlaw09_bit {args : List Value} (h : Calls Try.prog 104 args.toArray w (retP K)) : pN Try.prog (oCall 104 args) w K := pN_callQ (f := 104) (fun a w => call_pithlaw09_bit a w) h
theorem pc_pithref06_bound {args : List Value} (h : Calls Try.prog 105 args.toArray w (retP K)) : pN Try.prog (oCall 105 args) w K := pN_callQ (f := 105) (fun a w => call_pithref06_bound a w) h
theorem pc_pithref06_Next {args : List Value} (h : Calls Try.prog 106 args.toArray w (retP K)) : pN Try.prog (oCall 106 args) w K := pN_callQ (f := 106) (fun a w => call_pithref06_Next a w) h
theorem pc_tree_there {args : List Value} (h : Calls Try.prog 107 args.toArray w (retP K)) : pN Try.prog (oCall 107 args) w K := pN_callQ (f := 107) (fun a w => call_tree_there a w) h
theorem pc_tree_holds {args : List Value} (h : Calls Try.prog 108 args.toArray w (retP K)) : pN Try.prog (oCall 108 args) w K := pN_callQ (f := 108) (fun a w => call_tree_holds a w) h
theorem pc_tree_down {args : List Value} (h : Calls Try.prog 109 args.toArray w (retP K)) : pN Try.prog (oCall 109 args) w K := pN_callQ (f := 109) (fun a w => call_tree_down a w) h
theorem pc_tree_cost_c1 {args : List Value} (h : Calls Try.prog 110 args.toArray w (retP K)) : pN Try.prog (oCall 110 args) w K := pN_callQ (f := 110) (fun a w => call_tree_cost_c1 a w) h
theorem pv_tree_cost_c1 {cap args : List Value} (h : Calls Try.prog 110 (args ++ cap).toArray w (retP K)) : pN Try.prog (oCallV (.func (.func 110) [].toArray cap.toArray) args) w K := pN_callV (f := 110) (fun a w => call_tree_cost_c1 a w) h
theorem pc_tree_order {args : List Value} (h : Calls Try.prog 111 args.toArray w (retP K)) : pN Try.prog (oCall 111 args) w K := pN_callQ (f := 111) (fun a w => call_tree_order a w) h
theorem pc_prob_Cost {args : List Value} (h : Calls Try.prog 112 args.toArray w (retP K)) : pN Try.prog (oCall 112 args) w K := pN_callQ (f := 112) (fun a w => call_prob_Cost a w) h
theorem pc_tree_put_c1 {args : List Value} (h : Calls Try.prog 113 args.toArray w (retP K)) : pN Try.prog (oCall 113 args) w K := pN_callQ (f := 113) (fun a w => call_tree_put_c1 a w) h
theorem pv_tree_put_c1 {cap args : List Value} (h : Calls Try.prog 113 (args ++ cap).toArray w (retP K)) : pN Try.prog (oCallV (.func (.func 113) [].toArray cap.toArray) args) w K := pN_callV (f := 113) (fun a w => call_tree_put_c1 a w) h
theorem pc_pithref09_refused {args : List Value} (h : Calls Try.prog 114 args.toArray w (retP K)) : pN Try.prog (oCall 114 args) w K := pN_callQ (f := 114) (fun a w => call_pithref09_refused a w) h
theorem pc_pithref09_Way {args : List Value} (h : Calls Try.prog 115 args.toArray w (retP K)) : pN Try.prog (oCall 115 args) w K := pN_callQ (f := 115) (fun a w => call_pithref09_Way a w) h
theorem pc_pithref09_bits {args : List Value} (h : Calls Try.prog 116 args.toArray w (retP K)) : pN Try.prog (oCall 116 args) w K := pN_callQ (f := 116) (fun a w => call_pithref09_bits a w) h
theorem pc_pithref06_Cost {args : List Value} (h : Calls Try.prog 117 args.toArray w (retP K)) : pN Try.prog (oCall 117 args) w K := pN_callQ (f := 117) (fun a w => call_pithref06_Cost a w) h
theorem pc_tree_get {args : List Value} (h : Calls Try.prog 118 args.toArray w (retP K)) : pN Try.prog (oCall 118 args) w K := pN_callQ (f := 118) (fun a w => call_tree_get a w) h
theorem pc_pithref09_There {args : List Value} (h : Calls Try.prog 119 args.toArray w (retP K)) : pN Try.prog (oCall 119 args) w K := pN_callQ (f := 119) (fun a w => call_pithref09_There a w) h
theorem pc_pithref09_two {args : List Value} (h : Calls Try.prog 120 args.toArray w (retP K)) : pN Try.prog (oCall 120 args) w K := pN_callQ (f := 120) (fun a w => call_pithref09_two a w) h
theorem pc_prob_costing {args : List Value} (h : Calls Try.prog 121 args.toArray w (retP K)) : pN Try.prog (oCall 121 args) w K := pN_callQ (f := 121) (fun a w => call_prob_costing a w) h
theorem pc_pithref06_cost {args : List Value} (h : Calls Try.prog 122 args.toArray w (retP K)) : pN Try.prog (oCall 122 args) w K := pN_callQ (f := 122) (fun a w => call_pithref06_cost a w) h
theorem pc_tree_get_c1 {args : List Value} (h : Calls Try.prog 123 args.toArray w (retP K)) : pN Try.prog (oCall 123 args) w K := pN_callQ (f := 123) (fun a w => call_tree_get_c1 a w) h
theorem pv_tree_get_c1 {cap args : List Value} (h : Calls Try.prog 123 (args ++ cap).toArray w (retP K)) : pN Try.prog (oCallV (.func (.func 123) [].toArray cap.toArray) args) w K := pN_callV (f := 123) (fun a w => call_tree_get_c1 a w) h
end

attribute [go_sem] pN_conv_int_uint8 pA_conv_int_uint8 pL_conv_int_uint8 pN_conv_int_uint32 pA_conv_int_uint32 pL_conv_int_uint32 pN_conv_uint8_int pA_conv_uint8_int pL_conv_uint8_int pN_conv_uint8_uint32 pA_conv_uint8_uint32 pL_conv_uint8_uint32 pN_conv_uint8_uint64 pA_conv_uint8_uint64 pL_conv_uint8_uint64 pN_conv_uint32_int pA_conv_uint32_int pL_conv_uint32_int pN_conv_uint32_uint64 pA_conv_uint32_uint64 pL_conv_uint32_uint64 pN_conv_uint64_uint8 pA_conv_uint64_uint8 pL_conv_uint64_uint8 pN_len_sl_uint32 pA_len_sl_uint32 pN_len_sl_int pA_len_sl_int pN_len_sl_uint8 pA_len_sl_uint8 pN_len_sl_pithlaw07_Bit pA_len_sl_pithlaw07_Bit pN_len_sl_pithlaw07_Op pA_len_sl_pithlaw07_Op pN_len_sl_pithlaw07_Pair pA_len_sl_pithlaw07_Pair pN_len_sl_pithlaw07_Held pA_len_sl_pithlaw07_Held pN_len_sl_pithlaw08_Ask pA_len_sl_pithlaw08_Ask pN_len_sl_bool pA_len_sl_bool pN_len_sl_pithlaw09_Op pA_len_sl_pithlaw09_Op pN_len_sl_sl_uint8 pA_len_sl_sl_uint8 pN_len_sl_p_prob_Set pA_len_sl_p_prob_Set pN_len_sl_pithref09_Step pA_len_sl_pithref09_Step pN_aidx_arr4_int pA_aidx_arr4_int pN_aidx_arr2_p_prob_Set pA_aidx_arr2_p_prob_Set pN_aidx_arr2_p_pithref06_Set pA_aidx_arr2_p_pithref06_Set pN_eql_p_rcenc_Encoder pA_eql_p_rcenc_Encoder pN_neq_p_rcenc_Encoder pA_neq_p_rcenc_Encoder pN_eql_p_prob_Set pA_eql_p_prob_Set pN_neq_p_prob_Set pA_neq_p_prob_Set pN_eql_p_rcdec_Decoder pA_eql_p_rcdec_Decoder pN_neq_p_rcdec_Decoder pA_neq_p_rcdec_Decoder pN_eql_p_pithref08_Decoder pA_eql_p_pithref08_Decoder pN_neq_p_pithref08_Decoder pA_neq_p_pithref08_Decoder pN_eqlb_bool pA_eqlb_bool pN_neqb_bool pA_neqb_bool pN_fld_pithlaw07_Bit_I pA_fld_pithlaw07_Bit_I pN_fld_pithlaw07_Bit_One pA_fld_pithlaw07_Bit_One pN_fld_pithlaw07_Sets_P pA_fld_pithlaw07_Sets_P pN_fld_pithlaw07_Sets_R pA_fld_pithlaw07_Sets_R pN_fld_pithlaw07_Pair_E pA_fld_pithlaw07_Pair_E pN_fld_pithlaw07_Pair_R pA_fld_pithlaw07_Pair_R pN_fld_pithlaw07_Op_Kind pA_fld_pithlaw07_Op_Kind pN_fld_pithlaw07_Op_E pA_fld_pithlaw07_Op_E pN_fld_pithlaw07_Op_S pA_fld_pithlaw07_Op_S pN_fld_pithlaw07_Op_I pA_fld_pithlaw07_Op_I pN_fld_pithlaw07_Op_Bit pA_fld_pithlaw07_Op_Bit pN_fld_pithlaw07_Op_V pA_fld_pithlaw07_Op_V pN_fld_pithlaw07_Op_N pA_fld_pithlaw07_Op_N pN_fld_pithlaw07_Held_B pA_fld_pithlaw07_Held_B pN_fld_pithlaw07_Held_N pA_fld_pithlaw07_Held_N pN_fld_pithlaw07_Held_Mark pA_fld_pithlaw07_Held_Mark pN_fld_pithlaw07_Held_Want pA_fld_pithlaw07_Held_Want pN_fld_pithlaw07_Held_Kept pA_fld_pithlaw07_Held_Kept pN_fld_pithlaw08_Ask_Direct pA_fld_pithlaw08_Ask_Direct pN_fld_pithlaw08_Ask_I pA_fld_pithlaw08_Ask_I pN_fld_pithlaw08_Ask_N pA_fld_pithlaw08_Ask_N pN_fld_pithlaw08_Ask_V pA_fld_pithlaw08_Ask_V pN_fld_pithlaw08_Plan_N pA_fld_pithlaw08_Plan_N pN_fld_pithlaw08_Plan_Asks pA_fld_pithlaw08_Plan_Asks pN_fld_pithlaw09_Op_Kind pA_fld_pithlaw09_Op_Kind pN_fld_pithlaw09_Op_Row pA_fld_pithlaw09_Op_Row pN_fld_pithlaw09_Op_At pA_fld_pithlaw09_Op_At pN_fld_pithlaw09_Op_N pA_fld_pithlaw09_Op_N pN_fld_pithlaw09_Op_V pA_fld_pithlaw09_Op_V pN_fld_pithlaw09_rows_S pA_fld_pithlaw09_rows_S pN_fld_pithlaw09_rows_R pA_fld_pithlaw09_rows_R pN_fld_rcenc_Encoder_low pA_fld_rcenc_Encoder_low pN_fld_rcenc_Encoder_rng pA_fld_rcenc_Encoder_rng pN_fld_rcenc_Encoder_held pA_fld_rcenc_Encoder_held pN_fld_rcenc_Encoder_wait pA_fld_rcenc_Encoder_wait pN_fld_rcenc_Encoder_out pA_fld_rcenc_Encoder_out pN_fld_prob_Set_p pA_fld_prob_Set_p pN_fld_pithref07_Encoder_L pA_fld_pithref07_Encoder_L pN_fld_pithref07_Encoder_R pA_fld_pithref07_Encoder_R pN_fld_pithref07_Encoder_Shifts pA_fld_pithref07_Encoder_Shifts pN_fld_pithref06_Set_N pA_fld_pithref06_Set_N pN_fld_pithref06_Set_P pA_fld_pithref06_Set_P pN_fld_rcdec_place_read pA_fld_rcdec_place_read pN_fld_rcdec_place_rng pA_fld_rcdec_place_rng pN_fld_rcdec_place_now pA_fld_rcdec_place_now pN_fld_rcdec_Decoder_b pA_fld_rcdec_Decoder_b pN_fld_rcdec_Decoder_place pA_fld_rcdec_Decoder_place pN_fld_pithref08_Decoder_B pA_fld_pithref08_Decoder_B pN_fld_pithref08_Decoder_Read pA_fld_pithref08_Decoder_Read pN_fld_pithref08_Decoder_R pA_fld_pithref08_Decoder_R pN_fld_pithref08_Decoder_C pA_fld_pithref08_Decoder_C pN_fld_pithref09_Step_At pA_fld_pithref09_Step_At pN_fld_pithref09_Step_Bit pA_fld_pithref09_Step_Bit

end Go.Proofs.Ytoejaggkedlfmaa

namespace Go.Proofs.Ytoejaggkedlfmaa
open Go
set_option linter.unusedSimpArgs false
set_option linter.unnecessarySimpa false
set_option linter.unusedSectionVars false
set_option linter.unusedVariables false
set_option maxRecDepth 100000

/-! pithlaw09_TreeCheaper: pith/pithlaw09.TreeCheaper; temporaries: 0:n 1:v 2:back 3:n 4:v 5:back 7:s 8:e 9:x 10:cost 11:f 12:i 13:now -/
def pithlaw09_TreeCheaper.H : Hints := { cut := fun | 10 => some ([10, 11], 9187343239835814912) | 12 => some ([10, 11], 20282409601290487182512428690752) | 19 => some ([8, 11, 13], 79228160153081096158721353984) | _ => none, loop := fun | 11 => ([10, 11, 12], 20282409603642447051910396525888) | _ => ([], 0), order := fun  | _ => [] }
def pithlaw09_TreeCheaper.F [Pan] (x0 : Value) (x1 : Value) (x2 : Value) (w : World) (Q : Value → World → Prop) : Prop :=
 pN Try.prog (oBin .lss 3 (.tmp 14) (.const (.int .i64 0)) x0 (.int .i64 0)) w fun x15 w1 =>
 pGd (gB x15 false) (pN Try.prog (oMv x0) w1) w1 fun x17 w2 =>
 pGd (gB x15 false) (pN Try.prog (oBin .gtr 3 (.tmp 17) (.const (.int .i64 10)) x17 (.int .i64 10)) w2) w2 fun x18 w3 =>
 pN Try.prog (oPick x15 (.bool true) x18) w3 fun x19 w4 =>
 pGd (gB x19 false) (pN Try.prog (oMv x1) w4) w4 fun x21 w5 =>
 pGd (gB x19 false) (pN Try.prog (oBin .lss 3 (.tmp 21) (.const (.int .i64 0)) x21 (.int .i64 0)) w5) w5 fun x22 w6 =>
 pN Try.prog (oPick x19 (.bool true) x22) w6 fun x23 w7 =>
 pGd (gB x23 false) (pN Try.prog (oMv x1) w7) w7 fun x25 w8 =>
 pGd (gB x23 false) (pN Try.prog (oMv x0) w8) w8 fun x26 w9 =>
 pGd (gB x23 false) (pN Try.prog (oBin .shl 3 (.const (.int .i64 1)) (.tmp 26) (.int .i64 1) x26) w9) w9 fun x27 w10 =>
 pGd (gB x23 false) (pN Try.prog (oBin .geq 3 (.tmp 25) (.tmp 27) x25 x27) w10) w10 fun x28 w11 =>
 pN Try.prog (oPick x23 (.bool true) x28) w11 fun x29 w12 =>
 pIf x29
 (pN Try.prog (oCall 57 []) w12 fun x30 w13 =>
 Q x30 w13)
 (pN Try.prog (oBin .shl 3 (.const (.int .i64 1)) (.tmp 32) (.int .i64 1) x0) w12 fun x33 w14 =>
 pN Try.prog (oCall 45 [x33]) w14 fun x34 w15 =>
 pN Try.prog (oExt x34 0) w15 fun x35 w16 =>
 pN Try.prog (oExt x34 1) w16 fun x36 w17 =>
 pN Try.prog (oCall 18 []) w17 fun x37 w18 =>
 pN Try.prog (oBin .neq 27 (.tmp 38) (.const (.int .i64 0)) x36 (.int .i64 0)) w18 fun x39 w19 =>
 pGd (gB x39 false) (pN Try.prog (oMv x35) w19) w19 fun x41 w20 =>
 pGd (gB x39 false) (pN Try.prog (oBin .eql 34 (.tmp 41) (.const (.pointer none)) x41 (.pointer none)) w20) w20 fun x42 w21 =>
 pN Try.prog (oPick x39 (.bool true) x42) w21 fun x43 w22 =>
 pGd (gB x43 false) (pN Try.prog (oMv x37) w22) w22 fun x45 w23 =>
 pGd (gB x43 false) (pN Try.prog (oBin .eql 24 (.tmp 45) (.const (.pointer none)) x45 (.pointer none)) w23) w23 fun x46 w24 =>
 pN Try.prog (oPick x43 (.bool true) x46) w24 fun x47 w25 =>
 pIf x47
 (Q (.bool false) w25)
 (pN Try.prog (oCall 58 [x35, (.int .i64 0), x0, x1]) w25 fun x52 w26 =>
 pN Try.prog (oExt x52 0) w26 fun x53 w27 =>
 pN Try.prog (oExt x52 1) w27 fun x54 w28 =>
 ∃ I10 : Value → Value → World → Prop,
 (pIf x2
 (pN Try.prog (oCall 59 [x35, (.int .i64 0), x0, x1]) w28 fun x60 w29 =>
 pN Try.prog (oExt x60 0) w29 fun x61 w30 =>
 pN Try.prog (oExt x60 1) w30 fun x62 w31 =>
 I10 x61 x62 w31)
 (I10 x53 x54 w28)) ∧
 ∀ (_j10 : Env) (cost10c10 : Value) (f11c10 : Value) (w32 : World), I10 cost10c10 f11c10 w32 →
 ∃ (L11 : Value → Value → Value → World → Prop) (m11 : Value → Value → Value → World → Nat),
 L11 cost10c10 f11c10 (.int .i64 0) w32 ∧
 ∀ (_k11 : Env) (cost10l11 : Value) (f11l11 : Value) (i12l11 : Value) (w33 : World), L11 cost10l11 f11l11 i12l11 w33 →
 pN Try.prog (oBin .lss 3 (.tmp 63) (.const (.int .i64 300)) i12l11 (.int .i64 300)) w33 fun x64 w34 =>
 pGd (gB x64 true) (pN Try.prog (oMv f11l11) w34) w34 fun x66 w35 =>
 pGd (gB x64 true) (pN Try.prog (oBin .eql 27 (.tmp 66) (.const (.int .i64 0)) x66 (.int .i64 0)) w35) w35 fun x67 w36 =>
 pN Try.prog (oPick x64 x67 (.bool false)) w36 fun x68 w37 =>
 pIf x68
 (∃ I12 : Value → Value → World → Prop,
 (∃ I19 : Value → Value → Value → World → Prop,
 (pIf x2
 (pN Try.prog (oCall 60 [x37, x35, (.int .i64 0), x0, x1]) w37 fun x76 w38 =>
 pN Try.prog (oCall 59 [x35, (.int .i64 0), x0, x1]) w38 fun x81 w39 =>
 pN Try.prog (oExt x81 0) w39 fun x82 w40 =>
 pN Try.prog (oExt x81 1) w40 fun x83 w41 =>
 I19 x83 x76 x82 w41)
 (pN Try.prog (oCall 61 [x37, x35, (.int .i64 0), x0, x1]) w37 fun x88 w42 =>
 pN Try.prog (oCall 58 [x35, (.int .i64 0), x0, x1]) w42 fun x93 w43 =>
 pN Try.prog (oExt x93 0) w43 fun x94 w44 =>
 pN Try.prog (oExt x93 1) w44 fun x95 w45 =>
 I19 x95 x88 x94 w45)) ∧
 ∀ (_j19 : Env) (e8c19 : Value) (f11c19 : Value) (now13c19 : Value) (w46 : World), I19 e8c19 f11c19 now13c19 w46 →
 pN Try.prog (oBin .neq 27 (.tmp 96) (.const (.int .i64 0)) e8c19 (.int .i64 0)) w46 fun x97 w47 =>
 pGd (gB x97 false) (pN Try.prog (oMv now13c19) w47) w47 fun x99 w48 =>
 pGd (gB x97 false) (pN Try.prog (oMv cost10l11) w48) w48 fun x100 w49 =>
 pGd (gB x97 false) (pN Try.prog (oBin .gtr 3 (.tmp 99) (.tmp 100) x99 x100) w49) w49 fun x101 w50 =>
 pN Try.prog (oPick x97 (.bool true) x101) w50 fun x102 w51 =>
 pIf x102
 (Q (.bool false) w51)
 (I12 now13c19 f11c19 w51)) ∧
 ∀ (_j12 : Env) (cost10c12 : Value) (f11c12 : Value) (w52 : World), I12 cost10c12 f11c12 w52 →
 pN Try.prog (oBin .add 3 (.tmp 69) (.const (.int .i64 1)) i12l11 (.int .i64 1)) w52 fun x70 w53 =>
 (L11 cost10c12 f11c12 x70 w53 ∧ m11 cost10c12 f11c12 x70 w53 < m11 cost10l11 f11l11 i12l11 w33))
 (pN Try.prog (oBin .eql 27 (.tmp 104) (.const (.int .i64 0)) f11l11 (.int .i64 0)) w37 fun x105 w54 =>
 pGd (gB x105 true) (pN Try.prog (oMv cost10l11) w54) w54 fun x107 w55 =>
 pGd (gB x105 true) (pN Try.prog (oMv x0) w55) w55 fun x108 w56 =>
 pGd (gB x105 true) (pN Try.prog (oBin .leq 3 (.tmp 107) (.tmp 108) x107 x108) w56) w56 fun x109 w57 =>
 pN Try.prog (oPick x105 x109 (.bool false)) w57 fun x110 w58 =>
 pGd (gB x110 true) (pN Try.prog (oCall 57 []) w58) w58 fun x112 w59 =>
 pN Try.prog (oPick x110 x112 (.bool false)) w59 fun x113 w60 =>
 Q x113 w60)))
noncomputable def pithlaw09_TreeCheaper.c : Code := match Try.f11.body with | some c => c | none => .skip
theorem pithlaw09_TreeCheaper.eq [Pan] (x0 : Value) (x1 : Value) (x2 : Value) (w : World) (Q : Value → World → Prop) : cw Try.prog pithlaw09_TreeCheaper.H pithlaw09_TreeCheaper.c (endQ Try.prog Try.f11.results.toList Q) (argsE [x0, x1, x2]) w = pithlaw09_TreeCheaper.F x0 x1 x2 w Q := by kernel_rfl
theorem pithlaw09_TreeCheaper.calls [Pan] {x0 : Value} {x1 : Value} {x2 : Value} {w : World} {Q : Value → World → Prop} (h : pithlaw09_TreeCheaper.F x0 x1 x2 w Q) : Calls Try.prog 11 #[x0, x1, x2] w (retP Q) :=
  calls_of_cw (H := pithlaw09_TreeCheaper.H) (c := pithlaw09_TreeCheaper.c) (args := [x0, x1, x2]) mixed Try.func11 (by kernel_rfl) (by kernel_rfl) (Nat.le_of_ble_eq_true (by kernel_rfl)) ((pithlaw09_TreeCheaper.eq x0 x1 x2 w Q).mpr h)

/-! pithlaw09_TreeTwoOrders: pith/pithlaw09.TreeTwoOrders; temporaries: 0:n 1:v 2:bits 3:n 4:v 5:bits 7:a 8:e 9:i 10:t 11:was 12:b 13:x 14:y 15:c 16:f 17:d 18:g 19:moved 20:i 21:p 22:_ 23:q 24:_ -/
def pithlaw09_TreeTwoOrders.H : Hints := { cut := fun | 8 => some ([], 75555557882905109726272) | 12 => some ([10], 34587645138205410304) | 25 => some ([19], 1427236803670218411027455141462057319831961600) | _ => none, loop := fun | 7 => ([9], 75557827697117304456768) | 24 => ([19, 20], 1427247522564776420589054237762191420531671040) | _ => ([], 0), order := fun | 30 => [(0, 0), (3, 1), (1, 9), (2, 11), (4, 15), (5, 31), (6, 63), (7, 127), (8, 255), (9, 511), (10, 1023), (11, 2047), (12, 4095), (13, 8191), (14, 16383), (15, 32767), (16, 65535), (17, 131071), (18, 262143), (19, 524287), (20, 1048575)] | _ => [] }
def pithlaw09_TreeTwoOrders.F [Pan] (x0 : Value) (x1 : Value) (x2 : Value) (w : World) (Q : Value → World → Prop) : Prop :=
 pN Try.prog (oBin .lss 3 (.tmp 25) (.const (.int .i64 0)) x0 (.int .i64 0)) w fun x26 w1 =>
 pGd (gB x26 false) (pN Try.prog (oMv x0) w1) w1 fun x28 w2 =>
 pGd (gB x26 false) (pN Try.prog (oBin .gtr 3 (.tmp 28) (.const (.int .i64 16)) x28 (.int .i64 16)) w2) w2 fun x29 w3 =>
 pN Try.prog (oPick x26 (.bool true) x29) w3 fun x30 w4 =>
 pGd (gB x30 false) (pN Try.prog (oMv x1) w4) w4 fun x32 w5 =>
 pGd (gB x30 false) (pN Try.prog (oBin .lss 3 (.tmp 32) (.const (.int .i64 0)) x32 (.int .i64 0)) w5) w5 fun x33 w6 =>
 pN Try.prog (oPick x30 (.bool true) x33) w6 fun x34 w7 =>
 pGd (gB x34 false) (pN Try.prog (oMv x1) w7) w7 fun x36 w8 =>
 pGd (gB x34 false) (pN Try.prog (oMv x0) w8) w8 fun x37 w9 =>
 pGd (gB x34 false) (pN Try.prog (oBin .shl 3 (.const (.int .i64 1)) (.tmp 37) (.int .i64 1) x37) w9) w9 fun x38 w10 =>
 pGd (gB x34 false) (pN Try.prog (oBin .geq 3 (.tmp 36) (.tmp 38) x36 x38) w10) w10 fun x39 w11 =>
 pN Try.prog (oPick x34 (.bool true) x39) w11 fun x40 w12 =>
 pIf x40
 (pN Try.prog (oCall 57 []) w12 fun x41 w13 =>
 Q x41 w13)
 (pN Try.prog (oBin .shl 3 (.const (.int .i64 1)) (.tmp 43) (.int .i64 1) x0) w12 fun x44 w14 =>
 pN Try.prog (oBin .add 3 (.tmp 44) (.const (.int .i64 9)) x44 (.int .i64 9)) w14 fun x45 w15 =>
 pN Try.prog (oCall 45 [x45]) w15 fun x46 w16 =>
 pN Try.prog (oExt x46 0) w16 fun x47 w17 =>
 pN Try.prog (oExt x46 1) w17 fun x48 w18 =>
 pN Try.prog (oBin .neq 27 (.tmp 49) (.const (.int .i64 0)) x48 (.int .i64 0)) w18 fun x50 w19 =>
 pGd (gB x50 false) (pN Try.prog (oMv x47) w19) w19 fun x52 w20 =>
 pGd (gB x50 false) (pN Try.prog (oBin .eql 34 (.tmp 52) (.const (.pointer none)) x52 (.pointer none)) w20) w20 fun x53 w21 =>
 pN Try.prog (oPick x50 (.bool true) x53) w21 fun x54 w22 =>
 pIf x54
 (Q (.bool false) w22)
 (∃ (L7 : Value → World → Prop) (m7 : Value → World → Nat),
 L7 (.int .i64 0) w22 ∧
 ∀ (_k7 : Env) (i9l7 : Value) (w23 : World), L7 i9l7 w23 →
 pN Try.prog (oBi .len #[102] 3 [false] [x2]) w23 fun x57 w24 =>
 pN Try.prog (oBin .lss 3 (.tmp 55) (.tmp 57) i9l7 x57) w24 fun x58 w25 =>
 pIf x58
 (∃ I8 : World → Prop,
 (∃ I12 : Value → World → Prop,
 (pN Try.prog (oIdx 102 x2 i9l7) w25 fun x63 w26 =>
 pN Try.prog (oLoad 4 x63) w26 fun x64 w27 =>
 pIf x64
 (I12 (.int .i64 1) w27)
 (I12 (.int .i64 0) w27)) ∧
 ∀ (_j12 : Env) (t10c12 : Value) (w28 : World), I12 t10c12 w28 →
 pN Try.prog (oBin .mul 3 (.tmp 66) (.tmp 67) i9l7 i9l7) w28 fun x68 w29 =>
 pN Try.prog (oBin .add 3 (.tmp 68) (.const (.int .i64 5)) x68 (.int .i64 5)) w29 fun x69 w30 =>
 pN Try.prog (oCall 63 [x47]) w30 fun x71 w31 =>
 pN Try.prog (oBin .rem 3 (.tmp 69) (.tmp 71) x69 x71) w31 fun x72 w32 =>
 pN Try.prog (oCall 62 [x47, x72, t10c12]) w32 fun x74 w33 =>
 pN Try.prog (oBin .neq 27 (.tmp 74) (.const (.int .i64 0)) x74 (.int .i64 0)) w33 fun x75 w34 =>
 pIf x75
 (Q (.bool false) w34)
 (I8 w34)) ∧
 ∀ (_j8 : Env) (w35 : World), I8 w35 →
 pN Try.prog (oBin .add 3 (.tmp 59) (.const (.int .i64 1)) i9l7 (.int .i64 1)) w35 fun x60 w36 =>
 (L7 x60 w36 ∧ m7 x60 w36 < m7 i9l7 w23))
 (pN Try.prog (oCall 40 [x47]) w25 fun x77 w37 =>
 pN Try.prog (oCall 40 [x47]) w37 fun x79 w38 =>
 pN Try.prog (oCall 18 []) w38 fun x80 w39 =>
 pN Try.prog (oCall 18 []) w39 fun x81 w40 =>
 pN Try.prog (oCall 64 [x0, x1]) w40 fun x87 w41 =>
 pN Try.prog (oCall 58 [x47, (.int .i64 9), x0, x87]) w41 fun x88 w42 =>
 pN Try.prog (oExt x88 0) w42 fun x89 w43 =>
 pN Try.prog (oExt x88 1) w43 fun x90 w44 =>
 pN Try.prog (oCall 59 [x79, (.int .i64 9), x0, x1]) w44 fun x95 w45 =>
 pN Try.prog (oExt x95 0) w45 fun x96 w46 =>
 pN Try.prog (oExt x95 1) w46 fun x97 w47 =>
 pN Try.prog (oBin .neq 27 (.tmp 98) (.const (.int .i64 0)) x90 (.int .i64 0)) w47 fun x99 w48 =>
 pGd (gB x99 false) (pN Try.prog (oMv x97) w48) w48 fun x101 w49 =>
 pGd (gB x99 false) (pN Try.prog (oBin .neq 27 (.tmp 101) (.const (.int .i64 0)) x101 (.int .i64 0)) w49) w49 fun x102 w50 =>
 pN Try.prog (oPick x99 (.bool true) x102) w50 fun x103 w51 =>
 pGd (gB x103 false) (pN Try.prog (oMv x89) w51) w51 fun x105 w52 =>
 pGd (gB x103 false) (pN Try.prog (oMv x96) w52) w52 fun x106 w53 =>
 pGd (gB x103 false) (pN Try.prog (oBin .neq 3 (.tmp 105) (.tmp 106) x105 x106) w53) w53 fun x107 w54 =>
 pN Try.prog (oPick x103 (.bool true) x107) w54 fun x108 w55 =>
 pGd (gB x108 false) (pN Try.prog (oMv x80) w55) w55 fun x110 w56 =>
 pGd (gB x108 false) (pN Try.prog (oMv x47) w56) w56 fun x111 w57 =>
 pGd (gB x108 false) (pN Try.prog (oMv x0) w57) w57 fun x112 w58 =>
 pGd (gB x108 false) (pN Try.prog (oMv x0) w58) w58 fun x113 w59 =>
 pGd (gB x108 false) (pN Try.prog (oMv x1) w59) w59 fun x114 w60 =>
 pGd (gB x108 false) (pN Try.prog (oCall 64 [x113, x114]) w60) w60 fun x115 w61 =>
 pGd (gB x108 false) (pN Try.prog (oCall 61 [x110, x111, (.int .i64 9), x112, x115]) w61) w61 fun x116 w62 =>
 pGd (gB x108 false) (pN Try.prog (oBin .neq 27 (.tmp 116) (.const (.int .i64 0)) x116 (.int .i64 0)) w62) w62 fun x117 w63 =>
 pN Try.prog (oPick x108 (.bool true) x117) w63 fun x118 w64 =>
 pGd (gB x118 false) (pN Try.prog (oMv x81) w64) w64 fun x120 w65 =>
 pGd (gB x118 false) (pN Try.prog (oMv x79) w65) w65 fun x121 w66 =>
 pGd (gB x118 false) (pN Try.prog (oMv x0) w66) w66 fun x122 w67 =>
 pGd (gB x118 false) (pN Try.prog (oMv x1) w67) w67 fun x123 w68 =>
 pGd (gB x118 false) (pN Try.prog (oCall 60 [x120, x121, (.int .i64 9), x122, x123]) w68) w68 fun x124 w69 =>
 pGd (gB x118 false) (pN Try.prog (oBin .neq 27 (.tmp 124) (.const (.int .i64 0)) x124 (.int .i64 0)) w69) w69 fun x125 w70 =>
 pN Try.prog (oPick x118 (.bool true) x125) w70 fun x126 w71 =>
 pIf x126
 (Q (.bool false) w71)
 (∃ (L24 : Value → Value → World → Prop) (m24 : Value → Value → World → Nat),
 L24 (.int .i64 0) (.int .i64 0) w71 ∧
 ∀ (_k24 : Env) (moved19l24 : Value) (i20l24 : Value) (w72 : World), L24 moved19l24 i20l24 w72 →
 pN Try.prog (oCall 63 [x47]) w72 fun x129 w73 =>
 pN Try.prog (oBin .lss 3 (.tmp 127) (.tmp 129) i20l24 x129) w73 fun x130 w74 =>
 pIf x130
 (∃ I25 : Value → World → Prop,
 (pN Try.prog (oCall 28 [x47, i20l24]) w74 fun x136 w75 =>
 pN Try.prog (oExt x136 0) w75 fun x137 w76 =>
 pN Try.prog (oExt x136 1) w76 fun _ w77 =>
 pN Try.prog (oCall 28 [x77, i20l24]) w77 fun x142 w78 =>
 pN Try.prog (oExt x142 0) w78 fun x143 w79 =>
 pN Try.prog (oExt x142 1) w79 fun _ w80 =>
 pN Try.prog (oBin .neq 3 (.tmp 145) (.tmp 146) x137 x143) w80 fun x147 w81 =>
 pIf x147
 (pN Try.prog (oBin .add 3 (.tmp 148) (.const (.int .i64 1)) moved19l24 (.int .i64 1)) w81 fun x149 w82 =>
 I25 x149 w82)
 (I25 moved19l24 w81)) ∧
 ∀ (_j25 : Env) (moved19c25 : Value) (w83 : World), I25 moved19c25 w83 →
 pN Try.prog (oBin .add 3 (.tmp 131) (.const (.int .i64 1)) i20l24 (.int .i64 1)) w83 fun x132 w84 =>
 (L24 moved19c25 x132 w84 ∧ m24 moved19c25 x132 w84 < m24 moved19l24 i20l24 w72))
 (pDr w74 fun w85 =>
 pN Try.prog (oCall 20 [x80]) w85 fun x151 w86 =>
 (True) ∧ (pL Try.prog (oConv 29 9 x151) w86 fun x152 =>
 pN Try.prog (oCall 20 [x81]) w86 fun x154 w87 =>
 ((Sem.run Try.prog (oConv 29 9 x151) w87 = .ok (.value x152) w87) ∧ True) ∧ (pL Try.prog (oConv 29 9 x154) w87 fun x155 =>
 pA Try.prog (oBin .eql 9 (.tmp 152) (.tmp 155) x152 x155) fun x156 =>
 gA (gB x156 true) (pA Try.prog (oMv x47)) fun x158 =>
 gA (gB x156 true) (pA Try.prog (oMv x79)) fun x159 =>
 pGd (gB x156 true) (pN Try.prog (oCall 65 [x158, x159]) w87) w87 fun x160 w88 =>
 (True) ∧ (pA Try.prog (oPick x156 x160 (.bool false)) fun x161 =>
 gA (gB x161 true) (pA Try.prog (oMv moved19l24)) fun x163 =>
 gA (gB x161 true) (pA Try.prog (oMv x0)) fun x164 =>
 gA (gB x161 true) (pA Try.prog (oBin .leq 3 (.tmp 163) (.tmp 164) x163 x164)) fun x165 =>
 pA Try.prog (oPick x161 x165 (.bool false)) fun x166 =>
 pGd (gB x166 true) (pN Try.prog (oCall 57 []) w88) w88 fun x168 w89 =>
 (True) ∧ (pA Try.prog (oPick x166 x168 (.bool false)) fun x169 =>
 Q x169 w89)))))))))
noncomputable def pithlaw09_TreeTwoOrders.c : Code := match Try.f12.body with | some c => c | none => .skip
theorem pithlaw09_TreeTwoOrders.eq [Pan] (x0 : Value) (x1 : Value) (x2 : Value) (w : World) (Q : Value → World → Prop) : cw Try.prog pithlaw09_TreeTwoOrders.H pithlaw09_TreeTwoOrders.c (endQ Try.prog Try.f12.results.toList Q) (argsE [x0, x1, x2]) w = pithlaw09_TreeTwoOrders.F x0 x1 x2 w Q := by kernel_rfl
theorem pithlaw09_TreeTwoOrders.calls [Pan] {x0 : Value} {x1 : Value} {x2 : Value} {w : World} {Q : Value → World → Prop} (h : pithlaw09_TreeTwoOrders.F x0 x1 x2 w Q) : Calls Try.prog 12 #[x0, x1, x2] w (retP Q) :=
  calls_of_cw (H := pithlaw09_TreeTwoOrders.H) (c := pithlaw09_TreeTwoOrders.c) (args := [x0, x1, x2]) mixed Try.func12 (by kernel_rfl) (by kernel_rfl) (Nat.le_of_ble_eq_true (by kernel_rfl)) ((pithlaw09_TreeTwoOrders.eq x0 x1 x2 w Q).mpr h)

/-! pithlaw09_TreeCodes: pith/pithlaw09.TreeCodes; temporaries: 0:lens 1:script 2:lens 3:script 5:w 6:ok 7:e 8:x 9:i 10:good -/
def pithlaw09_TreeCodes.H : Hints := { cut := fun  | _ => none, loop := fun | 7 => ([9], 17591917610512) | _ => ([], 0), order := fun | 12 => [(0, 0), (3, 1), (1, 9), (2, 11), (4, 15), (5, 31), (6, 63), (7, 127), (8, 255), (9, 511), (10, 1023), (11, 2047)] | _ => [] }
def pithlaw09_TreeCodes.F [Pan] (x0 : Value) (x1 : Value) (w : World) (Q : Value → World → Prop) : Prop :=
 pN Try.prog (oCall 66 [x0]) w fun x13 w1 =>
 pN Try.prog (oExt x13 0) w1 fun x14 w2 =>
 pN Try.prog (oExt x13 1) w2 fun x15 w3 =>
 pN Try.prog (oCall 18 []) w3 fun x16 w4 =>
 pN Try.prog (oCall 30 []) w4 fun x17 w5 =>
 pN Try.prog (oUn .not x15) w5 fun x19 w6 =>
 pGd (gB x19 false) (pN Try.prog (oMv x16) w6) w6 fun x21 w7 =>
 pGd (gB x19 false) (pN Try.prog (oBin .eql 24 (.tmp 21) (.const (.pointer none)) x21 (.pointer none)) w7) w7 fun x22 w8 =>
 pN Try.prog (oPick x19 (.bool true) x22) w8 fun x23 w9 =>
 pGd (gB x23 false) (pN Try.prog (oCall 57 []) w9) w9 fun x25 w10 =>
 pGd (gB x23 false) (pN Try.prog (oUn .not x25) w10) w10 fun x26 w11 =>
 pN Try.prog (oPick x23 (.bool true) x26) w11 fun x27 w12 =>
 pIf x27
 (Q (.bool false) w12)
 (∃ (L7 : Value → World → Prop) (m7 : Value → World → Nat),
 L7 (.int .i64 0) w12 ∧
 ∀ (_k7 : Env) (i9l7 : Value) (w13 : World), L7 i9l7 w13 →
 pN Try.prog (oBi .len #[110] 3 [false] [x1]) w13 fun x30 w14 =>
 pN Try.prog (oBin .lss 3 (.tmp 28) (.tmp 30) i9l7 x30) w14 fun x31 w15 =>
 pIf x31
 (pN Try.prog (oIdx 110 x1 i9l7) w15 fun x39 w16 =>
 pN Try.prog (oLoad 116 x39) w16 fun x40 w17 =>
 pN Try.prog (oCall 67 [x14, x16, x17, x40]) w17 fun x41 w18 =>
 pN Try.prog (oUn .not x41) w18 fun x43 w19 =>
 pIf x43
 (Q (.bool false) w19)
 (pN Try.prog (oBin .add 3 (.tmp 32) (.const (.int .i64 1)) i9l7 (.int .i64 1)) w19 fun x33 w20 =>
 (L7 x33 w20 ∧ m7 x33 w20 < m7 i9l7 w13)))
 (pDr w15 fun w21 =>
 pN Try.prog (oCall 20 [x16]) w21 fun x45 w22 =>
 (True) ∧ (pL Try.prog (oConv 29 9 x45) w22 fun x46 =>
 pN Try.prog (oCall 34 [x17]) w22 fun x48 w23 =>
 ((Sem.run Try.prog (oConv 29 9 x45) w23 = .ok (.value x46) w23) ∧ True) ∧ (pL Try.prog (oConv 29 9 x48) w23 fun x49 =>
 pA Try.prog (oBin .eql 9 (.tmp 46) (.tmp 49) x46 x49) fun x50 =>
 gA (gB x50 true) (pA Try.prog (oMv x14)) fun x52 =>
 pGd (gB x50 true) (pN Try.prog (oCall 68 [x52]) w23) w23 fun x53 w24 =>
 (True) ∧ (pA Try.prog (oPick x50 x53 (.bool false)) fun x54 =>
 Q x54 w24)))))
noncomputable def pithlaw09_TreeCodes.c : Code := match Try.f13.body with | some c => c | none => .skip
theorem pithlaw09_TreeCodes.eq [Pan] (x0 : Value) (x1 : Value) (w : World) (Q : Value → World → Prop) : cw Try.prog pithlaw09_TreeCodes.H pithlaw09_TreeCodes.c (endQ Try.prog Try.f13.results.toList Q) (argsE [x0, x1]) w = pithlaw09_TreeCodes.F x0 x1 w Q := by kernel_rfl
theorem pithlaw09_TreeCodes.calls [Pan] {x0 : Value} {x1 : Value} {w : World} {Q : Value → World → Prop} (h : pithlaw09_TreeCodes.F x0 x1 w Q) : Calls Try.prog 13 #[x0, x1] w (retP Q) :=
  calls_of_cw (H := pithlaw09_TreeCodes.H) (c := pithlaw09_TreeCodes.c) (args := [x0, x1]) mixed Try.func13 (by kernel_rfl) (by kernel_rfl) (Nat.le_of_ble_eq_true (by kernel_rfl)) ((pithlaw09_TreeCodes.eq x0 x1 w Q).mpr h)

/-! pithlaw09_TreeReads: pith/pithlaw09.TreeReads; temporaries: 0:lens 1:b 2:script 3:lens 4:b 5:script 7:w 8:ok 9:d 10:e 11:x 12:f 13:i 14:good -/
def pithlaw09_TreeReads.H : Hints := { cut := fun  | _ => none, loop := fun | 11 => ([13], 1208925818488729267888192) | _ => ([], 0), order := fun  | _ => [] }
def pithlaw09_TreeReads.F [Pan] (x0 : Value) (x1 : Value) (x2 : Value) (w : World) (Q : Value → World → Prop) : Prop :=
 pN Try.prog (oCall 66 [x0]) w fun x17 w1 =>
 pN Try.prog (oExt x17 0) w1 fun x18 w2 =>
 pN Try.prog (oExt x17 1) w2 fun x19 w3 =>
 pN Try.prog (oUn .not x19) w3 fun x21 w4 =>
 pGd (gB x21 false) (pN Try.prog (oCall 57 []) w4) w4 fun x23 w5 =>
 pGd (gB x21 false) (pN Try.prog (oUn .not x23) w5) w5 fun x24 w6 =>
 pN Try.prog (oPick x21 (.bool true) x24) w6 fun x25 w7 =>
 pIf x25
 (Q (.bool false) w7)
 (pN Try.prog (oBs 29 0 []) w7 fun x27 w8 =>
 pN Try.prog (oBi .append #[29, 29] 29 [false, false] [x27, x1]) w8 fun x29 w9 =>
 pN Try.prog (oCall 42 [x29]) w9 fun x30 w10 =>
 pN Try.prog (oExt x30 0) w10 fun x31 w11 =>
 pN Try.prog (oExt x30 1) w11 fun x32 w12 =>
 pN Try.prog (oCall 43 [x1]) w12 fun x35 w13 =>
 pN Try.prog (oExt x35 0) w13 fun x36 w14 =>
 pN Try.prog (oExt x35 1) w14 fun x37 w15 =>
 pN Try.prog (oBin .neq 3 (.tmp 38) (.tmp 39) x32 x37) w15 fun x40 w16 =>
 pGd (gB x40 false) (pN Try.prog (oMv x31) w16) w16 fun x42 w17 =>
 pGd (gB x40 false) (pN Try.prog (oBin .eql 75 (.tmp 42) (.const (.pointer none)) x42 (.pointer none)) w17) w17 fun x43 w18 =>
 pGd (gB x40 false) (pN Try.prog (oMv x36) w18) w18 fun x44 w19 =>
 pGd (gB x40 false) (pN Try.prog (oBin .eql 78 (.tmp 44) (.const (.pointer none)) x44 (.pointer none)) w19) w19 fun x45 w20 =>
 pGd (gB x40 false) (pN Try.prog (oBin .neq 4 (.tmp 43) (.tmp 45) x43 x45) w20) w20 fun x46 w21 =>
 pN Try.prog (oPick x40 (.bool true) x46) w21 fun x47 w22 =>
 pIf x47
 (Q (.bool false) w22)
 (pN Try.prog (oBin .eql 75 (.tmp 48) (.const (.pointer none)) x31 (.pointer none)) w22 fun x49 w23 =>
 pIf x49
 (Q (.bool true) w23)
 (∃ (L11 : Value → World → Prop) (m11 : Value → World → Nat),
 L11 (.int .i64 0) w23 ∧
 ∀ (_k11 : Env) (i13l11 : Value) (w24 : World), L11 i13l11 w24 →
 pN Try.prog (oBi .len #[110] 3 [false] [x2]) w24 fun x52 w25 =>
 pN Try.prog (oBin .lss 3 (.tmp 50) (.tmp 52) i13l11 x52) w25 fun x53 w26 =>
 pIf x53
 (pN Try.prog (oIdx 110 x2 i13l11) w26 fun x61 w27 =>
 pN Try.prog (oLoad 116 x61) w27 fun x62 w28 =>
 pN Try.prog (oCall 71 [x18, x31, x36, x62]) w28 fun x63 w29 =>
 pN Try.prog (oUn .not x63) w29 fun x65 w30 =>
 pGd (gB x65 false) (pN Try.prog (oMv x31) w30) w30 fun x67 w31 =>
 pGd (gB x65 false) (pN Try.prog (oCall 51 [x67]) w31) w31 fun x68 w32 =>
 pGd (gB x65 false) (pN Try.prog (oMv x36) w32) w32 fun x69 w33 =>
 pGd (gB x65 false) (pN Try.prog (oCall 52 [x69]) w33) w33 fun x70 w34 =>
 pGd (gB x65 false) (pN Try.prog (oBin .neq 3 (.tmp 68) (.tmp 70) x68 x70) w34) w34 fun x71 w35 =>
 pN Try.prog (oPick x65 (.bool true) x71) w35 fun x72 w36 =>
 pGd (gB x72 false) (pN Try.prog (oMv x31) w36) w36 fun x74 w37 =>
 pGd (gB x72 false) (pN Try.prog (oCall 53 [x74]) w37) w37 fun x75 w38 =>
 pGd (gB x72 false) (pN Try.prog (oMv x36) w38) w38 fun x76 w39 =>
 pGd (gB x72 false) (pN Try.prog (oCall 54 [x76]) w39) w39 fun x77 w40 =>
 pGd (gB x72 false) (pN Try.prog (oBin .neq 4 (.tmp 75) (.tmp 77) x75 x77) w40) w40 fun x78 w41 =>
 pN Try.prog (oPick x72 (.bool true) x78) w41 fun x79 w42 =>
 pIf x79
 (Q (.bool false) w42)
 (pN Try.prog (oBin .add 3 (.tmp 54) (.const (.int .i64 1)) i13l11 (.int .i64 1)) w42 fun x55 w43 =>
 (L11 x55 w43 ∧ m11 x55 w43 < m11 i13l11 w24)))
 (pN Try.prog (oCall 68 [x18]) w26 fun x81 w44 =>
 Q x81 w44))))
noncomputable def pithlaw09_TreeReads.c : Code := match Try.f16.body with | some c => c | none => .skip
theorem pithlaw09_TreeReads.eq [Pan] (x0 : Value) (x1 : Value) (x2 : Value) (w : World) (Q : Value → World → Prop) : cw Try.prog pithlaw09_TreeReads.H pithlaw09_TreeReads.c (endQ Try.prog Try.f16.results.toList Q) (argsE [x0, x1, x2]) w = pithlaw09_TreeReads.F x0 x1 x2 w Q := by kernel_rfl
theorem pithlaw09_TreeReads.calls [Pan] {x0 : Value} {x1 : Value} {x2 : Value} {w : World} {Q : Value → World → Prop} (h : pithlaw09_TreeReads.F x0 x1 x2 w Q) : Calls Try.prog 16 #[x0, x1, x2] w (retP Q) :=
  calls_of_cw (H := pithlaw09_TreeReads.H) (c := pithlaw09_TreeReads.c) (args := [x0, x1, x2]) mixed Try.func16 (by kernel_rfl) (by kernel_rfl) (Nat.le_of_ble_eq_true (by kernel_rfl)) ((pithlaw09_TreeReads.eq x0 x1 x2 w Q).mpr h)

/-! pithlaw09_TreeBack: pith/pithlaw09.TreeBack; temporaries: 0:lens 1:script 2:lens 3:script 5:w 6:ok 7:r 8:also 9:e 10:l 11:i 12:taken 13:d 14:f 15:i 16:good 17:k -/
def pithlaw09_TreeBack.H : Hints := { cut := fun | 9 => some ([10], 18446181123756135424) | _ => none, loop := fun | 8 => ([10, 11], 18446735277616536576) | 17 => ([15], 2475804520707034635474927632) | 23 => ([17], 83076747260677163485727391469404176) | _ => ([], 0), order := fun | 25 => [(0, 0), (1, 1), (2, 3), (3, 7), (4, 15), (5, 31), (6, 63), (7, 127), (8, 255), (9, 511), (10, 1023), (11, 2047), (12, 4095), (13, 8191), (14, 16383), (15, 32767)] | _ => [] }
def pithlaw09_TreeBack.F [Pan] (x0 : Value) (x1 : Value) (w : World) (Q : Value → World → Prop) : Prop :=
 pN Try.prog (oCall 66 [x0]) w fun x20 w1 =>
 pN Try.prog (oExt x20 0) w1 fun x21 w2 =>
 pN Try.prog (oExt x20 1) w2 fun x22 w3 =>
 pN Try.prog (oCall 66 [x0]) w3 fun x25 w4 =>
 pN Try.prog (oExt x25 0) w4 fun x26 w5 =>
 pN Try.prog (oExt x25 1) w5 fun x27 w6 =>
 pN Try.prog (oCall 18 []) w6 fun x28 w7 =>
 pN Try.prog (oUn .not x22) w7 fun x30 w8 =>
 pGd (gB x30 false) (pN Try.prog (oMv x27) w8) w8 fun x32 w9 =>
 pGd (gB x30 false) (pN Try.prog (oUn .not x32) w9) w9 fun x33 w10 =>
 pN Try.prog (oPick x30 (.bool true) x33) w10 fun x34 w11 =>
 pGd (gB x34 false) (pN Try.prog (oMv x28) w11) w11 fun x36 w12 =>
 pGd (gB x34 false) (pN Try.prog (oBin .eql 24 (.tmp 36) (.const (.pointer none)) x36 (.pointer none)) w12) w12 fun x37 w13 =>
 pN Try.prog (oPick x34 (.bool true) x37) w13 fun x38 w14 =>
 pGd (gB x38 false) (pN Try.prog (oCall 57 []) w14) w14 fun x40 w15 =>
 pGd (gB x38 false) (pN Try.prog (oUn .not x40) w15) w15 fun x41 w16 =>
 pN Try.prog (oPick x38 (.bool true) x41) w16 fun x42 w17 =>
 pIf x42
 (Q (.bool false) w17)
 (∃ (L8 : Value → Value → World → Prop) (m8 : Value → Value → World → Nat),
 L8 (.slice none 0 0) (.int .i64 0) w17 ∧
 ∀ (_k8 : Env) (l10l8 : Value) (i11l8 : Value) (w18 : World), L8 l10l8 i11l8 w18 →
 pN Try.prog (oBi .len #[110] 3 [false] [x1]) w18 fun x45 w19 =>
 pN Try.prog (oBin .lss 3 (.tmp 43) (.tmp 45) i11l8 x45) w19 fun x46 w20 =>
 pIf x46
 (∃ I9 : Value → World → Prop,
 (pN Try.prog (oIdx 110 x1 i11l8) w20 fun x53 w21 =>
 pN Try.prog (oLoad 116 x53) w21 fun x54 w22 =>
 pN Try.prog (oCall 72 [x21, x28, x54]) w22 fun x55 w23 =>
 pIf x55
 (pN Try.prog (oIdx 110 x1 i11l8) w23 fun x60 w24 =>
 pN Try.prog (oLoad 116 x60) w24 fun x61 w25 =>
 pN Try.prog (oBs 110 1 [(0, x61)]) w25 fun x62 w26 =>
 pN Try.prog (oBi .append #[110, 110] 110 [false, false] [l10l8, x62]) w26 fun x63 w27 =>
 I9 x63 w27)
 (I9 l10l8 w23)) ∧
 ∀ (_j9 : Env) (l10c9 : Value) (w28 : World), I9 l10c9 w28 →
 pN Try.prog (oBin .add 3 (.tmp 47) (.const (.int .i64 1)) i11l8 (.int .i64 1)) w28 fun x48 w29 =>
 (L8 l10c9 x48 w29 ∧ m8 l10c9 x48 w29 < m8 l10l8 i11l8 w18))
 (pN Try.prog (oCall 20 [x28]) w20 fun x66 w30 =>
 pN Try.prog (oCall 42 [x66]) w30 fun x67 w31 =>
 pN Try.prog (oExt x67 0) w31 fun x68 w32 =>
 pN Try.prog (oExt x67 1) w32 fun x69 w33 =>
 pN Try.prog (oBin .neq 27 (.tmp 70) (.const (.int .i64 0)) x69 (.int .i64 0)) w33 fun x71 w34 =>
 pGd (gB x71 false) (pN Try.prog (oMv x68) w34) w34 fun x73 w35 =>
 pGd (gB x71 false) (pN Try.prog (oBin .eql 75 (.tmp 73) (.const (.pointer none)) x73 (.pointer none)) w35) w35 fun x74 w36 =>
 pN Try.prog (oPick x71 (.bool true) x74) w36 fun x75 w37 =>
 pIf x75
 (Q (.bool false) w37)
 (∃ (L17 : Value → World → Prop) (m17 : Value → World → Nat),
 L17 (.int .i64 0) w37 ∧
 ∀ (_k17 : Env) (i15l17 : Value) (w38 : World), L17 i15l17 w38 →
 pN Try.prog (oBi .len #[110] 3 [false] [l10l8]) w38 fun x78 w39 =>
 pN Try.prog (oBin .lss 3 (.tmp 76) (.tmp 78) i15l17 x78) w39 fun x79 w40 =>
 pIf x79
 (pN Try.prog (oIdx 110 l10l8 i15l17) w40 fun x86 w41 =>
 pN Try.prog (oLoad 116 x86) w41 fun x87 w42 =>
 pN Try.prog (oCall 73 [x26, x68, x87]) w42 fun x88 w43 =>
 pN Try.prog (oUn .not x88) w43 fun x90 w44 =>
 pIf x90
 (Q (.bool false) w44)
 (pN Try.prog (oBin .add 3 (.tmp 80) (.const (.int .i64 1)) i15l17 (.int .i64 1)) w44 fun x81 w45 =>
 (L17 x81 w45 ∧ m17 x81 w45 < m17 i15l17 w38)))
 (∃ (L23 : Value → World → Prop) (m23 : Value → World → Nat),
 L23 (.int .i64 0) w40 ∧
 ∀ (_k23 : Env) (k17l23 : Value) (w46 : World), L23 k17l23 w46 →
 pN Try.prog (oNil x21) w46 fun x93 w47 =>
 pN Try.prog (oFld 130 x93 0) w47 fun x94 w48 =>
 pN Try.prog (oLoad 127 x94) w48 fun x95 w49 =>
 pN Try.prog (oBi .len #[127] 3 [false] [x95]) w49 fun x96 w50 =>
 pN Try.prog (oBin .lss 3 (.tmp 91) (.tmp 96) k17l23 x96) w50 fun x97 w51 =>
 pIf x97
 (pDr w51 fun w52 =>
 pA Try.prog (oNil x21) fun x101 =>
 pA Try.prog (oFld 130 x101 0) fun x102 =>
 pL Try.prog (oLoad 127 x102) w52 fun x103 =>
 pA Try.prog (oIdx 127 x103 k17l23) fun x105 =>
 pL Try.prog (oLoad 34 x105) w52 fun x106 =>
 pA Try.prog (oNil x26) fun x108 =>
 pA Try.prog (oFld 130 x108 0) fun x109 =>
 pL Try.prog (oLoad 127 x109) w52 fun x110 =>
 pA Try.prog (oIdx 127 x110 k17l23) fun x112 =>
 pL Try.prog (oLoad 34 x112) w52 fun x113 =>
 pN Try.prog (oCall 65 [x106, x113]) w52 fun x114 w53 =>
 (True) ∧ (pA Try.prog (oUn .not x114) fun x115 =>
 pIf x115
 (Q (.bool false) w53)
 (pN Try.prog (oBin .add 3 (.tmp 98) (.const (.int .i64 1)) k17l23 (.int .i64 1)) w53 fun x99 w54 =>
 (L23 x99 w54 ∧ m23 x99 w54 < m23 k17l23 w46))))
 (pN Try.prog (oCall 53 [x68]) w51 fun x117 w55 =>
 Q x117 w55)))))
noncomputable def pithlaw09_TreeBack.c : Code := match Try.f17.body with | some c => c | none => .skip
theorem pithlaw09_TreeBack.eq [Pan] (x0 : Value) (x1 : Value) (w : World) (Q : Value → World → Prop) : cw Try.prog pithlaw09_TreeBack.H pithlaw09_TreeBack.c (endQ Try.prog Try.f17.results.toList Q) (argsE [x0, x1]) w = pithlaw09_TreeBack.F x0 x1 w Q := by kernel_rfl
theorem pithlaw09_TreeBack.calls [Pan] {x0 : Value} {x1 : Value} {w : World} {Q : Value → World → Prop} (h : pithlaw09_TreeBack.F x0 x1 w Q) : Calls Try.prog 17 #[x0, x1] w (retP Q) :=
  calls_of_cw (H := pithlaw09_TreeBack.H) (c := pithlaw09_TreeBack.c) (args := [x0, x1]) mixed Try.func17 (by kernel_rfl) (by kernel_rfl) (Nat.le_of_ble_eq_true (by kernel_rfl)) ((pithlaw09_TreeBack.eq x0 x1 w Q).mpr h)

/-! pithlaw09_fixed: pith/pithlaw09.fixed; temporaries: 1:s 2:e 3:enc 4:c 5:f 6:g 7:p 8:h -/
def pithlaw09_fixed.H : Hints := { cut := fun  | _ => none, loop := fun  | _ => ([], 0), order := fun  | _ => [] }
def pithlaw09_fixed.F [Pan]  (w : World) (Q : Value → World → Prop) : Prop :=
 pN Try.prog (oCall 45 [(.int .i64 8)]) w fun x10 w1 =>
 pN Try.prog (oExt x10 0) w1 fun x11 w2 =>
 pN Try.prog (oExt x10 1) w2 fun x12 w3 =>
 pN Try.prog (oCall 18 []) w3 fun x13 w4 =>
 pN Try.prog (oBin .neq 27 (.tmp 14) (.const (.int .i64 0)) x12 (.int .i64 0)) w4 fun x15 w5 =>
 pGd (gB x15 false) (pN Try.prog (oMv x11) w5) w5 fun x17 w6 =>
 pGd (gB x15 false) (pN Try.prog (oBin .eql 34 (.tmp 17) (.const (.pointer none)) x17 (.pointer none)) w6) w6 fun x18 w7 =>
 pN Try.prog (oPick x15 (.bool true) x18) w7 fun x19 w8 =>
 pGd (gB x19 false) (pN Try.prog (oMv x13) w8) w8 fun x21 w9 =>
 pGd (gB x19 false) (pN Try.prog (oBin .eql 24 (.tmp 21) (.const (.pointer none)) x21 (.pointer none)) w9) w9 fun x22 w10 =>
 pN Try.prog (oPick x19 (.bool true) x22) w10 fun x23 w11 =>
 pIf x23
 (Q (.bool false) w11)
 (pN Try.prog (oCall 58 [x11, (.int .i64 0), (.int .i64 3), (.int .i64 5)]) w11 fun x26 w12 =>
 pN Try.prog (oExt x26 0) w12 fun x27 w13 =>
 pN Try.prog (oExt x26 1) w13 fun x28 w14 =>
 pN Try.prog (oCall 61 [x13, x11, (.int .i64 0), (.int .i64 3), (.int .i64 5)]) w14 fun x31 w15 =>
 pN Try.prog (oCall 28 [x11, (.int .i64 6)]) w15 fun x34 w16 =>
 pN Try.prog (oExt x34 0) w16 fun x35 w17 =>
 pN Try.prog (oExt x34 1) w17 fun x36 w18 =>
 pN Try.prog (oBin .eql 3 (.tmp 37) (.const (.int .i64 50)) x27 (.int .i64 50)) w18 fun x38 w19 =>
 pGd (gB x38 true) (pN Try.prog (oMv x28) w19) w19 fun x40 w20 =>
 pGd (gB x38 true) (pN Try.prog (oBin .eql 27 (.tmp 40) (.const (.int .i64 0)) x40 (.int .i64 0)) w20) w20 fun x41 w21 =>
 pN Try.prog (oPick x38 x41 (.bool false)) w21 fun x42 w22 =>
 pGd (gB x42 true) (pN Try.prog (oMv x31) w22) w22 fun x44 w23 =>
 pGd (gB x42 true) (pN Try.prog (oBin .eql 27 (.tmp 44) (.const (.int .i64 0)) x44 (.int .i64 0)) w23) w23 fun x45 w24 =>
 pN Try.prog (oPick x42 x45 (.bool false)) w24 fun x46 w25 =>
 pGd (gB x46 true) (pN Try.prog (oMv x35) w25) w25 fun x48 w26 =>
 pGd (gB x46 true) (pN Try.prog (oBin .eql 3 (.tmp 48) (.const (.int .i64 992)) x48 (.int .i64 992)) w26) w26 fun x49 w27 =>
 pN Try.prog (oPick x46 x49 (.bool false)) w27 fun x50 w28 =>
 pGd (gB x50 true) (pN Try.prog (oMv x36) w28) w28 fun x52 w29 =>
 pGd (gB x50 true) (pN Try.prog (oBin .eql 27 (.tmp 52) (.const (.int .i64 0)) x52 (.int .i64 0)) w29) w29 fun x53 w30 =>
 pN Try.prog (oPick x50 x53 (.bool false)) w30 fun x54 w31 =>
 Q x54 w31)
noncomputable def pithlaw09_fixed.c : Code := match Try.f57.body with | some c => c | none => .skip
theorem pithlaw09_fixed.eq [Pan]  (w : World) (Q : Value → World → Prop) : cw Try.prog pithlaw09_fixed.H pithlaw09_fixed.c (endQ Try.prog Try.f57.results.toList Q) (argsE []) w = pithlaw09_fixed.F  w Q := by kernel_rfl
theorem pithlaw09_fixed.calls [Pan]  {w : World} {Q : Value → World → Prop} (h : pithlaw09_fixed.F  w Q) : Calls Try.prog 57 #[] w (retP Q) :=
  calls_of_cw (H := pithlaw09_fixed.H) (c := pithlaw09_fixed.c) (args := []) mixed Try.func57 (by kernel_rfl) (by kernel_rfl) (Nat.le_of_ble_eq_true (by kernel_rfl)) ((pithlaw09_fixed.eq  w Q).mpr h)

/-! pithlaw09_turned: pith/pithlaw09.turned; temporaries: 0:n 1:v 2:n 3:v 5:r 6:i -/
def pithlaw09_turned.H : Hints := { cut := fun  | _ => none, loop := fun | 3 => ([5, 6], 524256) | _ => ([], 0), order := fun  | _ => [] }
def pithlaw09_turned.F [Pan] (x0 : Value) (x1 : Value) (w : World) (Q : Value → World → Prop) : Prop :=
 ∃ (L3 : Value → Value → World → Prop) (m3 : Value → Value → World → Nat),
 L3 (.int .i64 0) (.int .i64 0) w ∧
 ∀ (_k3 : Env) (r5l3 : Value) (i6l3 : Value) (w1 : World), L3 r5l3 i6l3 w1 →
 pN Try.prog (oBin .lss 3 (.tmp 7) (.tmp 8) i6l3 x0) w1 fun x9 w2 =>
 pIf x9
 (pN Try.prog (oBin .mul 3 (.const (.int .i64 2)) (.tmp 12) (.int .i64 2) r5l3) w2 fun x13 w3 =>
 pN Try.prog (oBin .shr 3 (.tmp 14) (.tmp 15) x1 i6l3) w3 fun x16 w4 =>
 pN Try.prog (oBin .and 3 (.tmp 16) (.const (.int .i64 1)) x16 (.int .i64 1)) w4 fun x17 w5 =>
 pN Try.prog (oBin .add 3 (.tmp 13) (.tmp 17) x13 x17) w5 fun x18 w6 =>
 pN Try.prog (oBin .add 3 (.tmp 10) (.const (.int .i64 1)) i6l3 (.int .i64 1)) w6 fun x11 w7 =>
 (L3 x18 x11 w7 ∧ m3 x18 x11 w7 < m3 r5l3 i6l3 w1))
 (Q r5l3 w2)
noncomputable def pithlaw09_turned.c : Code := match Try.f64.body with | some c => c | none => .skip
theorem pithlaw09_turned.eq [Pan] (x0 : Value) (x1 : Value) (w : World) (Q : Value → World → Prop) : cw Try.prog pithlaw09_turned.H pithlaw09_turned.c (endQ Try.prog Try.f64.results.toList Q) (argsE [x0, x1]) w = pithlaw09_turned.F x0 x1 w Q := by kernel_rfl
theorem pithlaw09_turned.calls [Pan] {x0 : Value} {x1 : Value} {w : World} {Q : Value → World → Prop} (h : pithlaw09_turned.F x0 x1 w Q) : Calls Try.prog 64 #[x0, x1] w (retP Q) :=
  calls_of_cw (H := pithlaw09_turned.H) (c := pithlaw09_turned.c) (args := [x0, x1]) mixed Try.func64 (by kernel_rfl) (by kernel_rfl) (Nat.le_of_ble_eq_true (by kernel_rfl)) ((pithlaw09_turned.eq x0 x1 w Q).mpr h)

/-! pithlaw09_alike: pith/pithlaw09.alike; temporaries: 0:a 1:b 2:a 3:b 5:i 6:p 7:e 8:q 9:f -/
def pithlaw09_alike.H : Hints := { cut := fun  | _ => none, loop := fun | 4 => ([5], 17592186012656) | _ => ([], 0), order := fun  | _ => [] }
def pithlaw09_alike.F [Pan] (x0 : Value) (x1 : Value) (w : World) (Q : Value → World → Prop) : Prop :=
 pN Try.prog (oCall 63 [x0]) w fun x11 w1 =>
 pN Try.prog (oCall 63 [x1]) w1 fun x13 w2 =>
 pN Try.prog (oBin .neq 3 (.tmp 11) (.tmp 13) x11 x13) w2 fun x14 w3 =>
 pIf x14
 (Q (.bool false) w3)
 (∃ (L4 : Value → World → Prop) (m4 : Value → World → Nat),
 L4 (.int .i64 0) w3 ∧
 ∀ (_k4 : Env) (i5l4 : Value) (w4 : World), L4 i5l4 w4 →
 pN Try.prog (oCall 63 [x0]) w4 fun x17 w5 =>
 pN Try.prog (oBin .lss 3 (.tmp 15) (.tmp 17) i5l4 x17) w5 fun x18 w6 =>
 pIf x18
 (pN Try.prog (oCall 28 [x0, i5l4]) w6 fun x24 w7 =>
 pN Try.prog (oExt x24 0) w7 fun x25 w8 =>
 pN Try.prog (oExt x24 1) w8 fun x26 w9 =>
 pN Try.prog (oCall 28 [x1, i5l4]) w9 fun x30 w10 =>
 pN Try.prog (oExt x30 0) w10 fun x31 w11 =>
 pN Try.prog (oExt x30 1) w11 fun x32 w12 =>
 pN Try.prog (oBin .neq 3 (.tmp 33) (.tmp 34) x25 x31) w12 fun x35 w13 =>
 pGd (gB x35 false) (pN Try.prog (oMv x26) w13) w13 fun x37 w14 =>
 pGd (gB x35 false) (pN Try.prog (oBin .neq 27 (.tmp 37) (.const (.int .i64 0)) x37 (.int .i64 0)) w14) w14 fun x38 w15 =>
 pN Try.prog (oPick x35 (.bool true) x38) w15 fun x39 w16 =>
 pGd (gB x39 false) (pN Try.prog (oMv x32) w16) w16 fun x41 w17 =>
 pGd (gB x39 false) (pN Try.prog (oBin .neq 27 (.tmp 41) (.const (.int .i64 0)) x41 (.int .i64 0)) w17) w17 fun x42 w18 =>
 pN Try.prog (oPick x39 (.bool true) x42) w18 fun x43 w19 =>
 pIf x43
 (Q (.bool false) w19)
 (pN Try.prog (oBin .add 3 (.tmp 19) (.const (.int .i64 1)) i5l4 (.int .i64 1)) w19 fun x20 w20 =>
 (L4 x20 w20 ∧ m4 x20 w20 < m4 i5l4 w4)))
 (Q (.bool true) w6))
noncomputable def pithlaw09_alike.c : Code := match Try.f65.body with | some c => c | none => .skip
theorem pithlaw09_alike.eq [Pan] (x0 : Value) (x1 : Value) (w : World) (Q : Value → World → Prop) : cw Try.prog pithlaw09_alike.H pithlaw09_alike.c (endQ Try.prog Try.f65.results.toList Q) (argsE [x0, x1]) w = pithlaw09_alike.F x0 x1 w Q := by kernel_rfl
theorem pithlaw09_alike.calls [Pan] {x0 : Value} {x1 : Value} {w : World} {Q : Value → World → Prop} (h : pithlaw09_alike.F x0 x1 w Q) : Calls Try.prog 65 #[x0, x1] w (retP Q) :=
  calls_of_cw (H := pithlaw09_alike.H) (c := pithlaw09_alike.c) (args := [x0, x1]) mixed Try.func65 (by kernel_rfl) (by kernel_rfl) (Nat.le_of_ble_eq_true (by kernel_rfl)) ((pithlaw09_alike.eq x0 x1 w Q).mpr h)

/-! pithlaw09_made: pith/pithlaw09.made; temporaries: 0:lens 1:lens 4:w 5:i 6:n 7:s 8:e 9:r 10:_ -/
def pithlaw09_made.H : Hints := { cut := fun | 4 => some ([], 9444732965739282040780) | 8 => some ([6], 2139095104) | 10 => some ([6], 135291469888) | _ => none, loop := fun | 3 => ([5], 9444732965739290421228) | _ => ([], 0), order := fun  | _ => [] }
def pithlaw09_made.F [Pan] (x0 : Value) (w : World) (Q : Value → World → Prop) : Prop :=
 pN Try.prog (oBuild 130 []) w fun x11 w1 =>
 pN Try.prog (oBox 130 x11) w1 fun x12 w2 =>
 ∃ (L3 : Value → World → Prop) (m3 : Value → World → Nat),
 L3 (.int .i64 0) w2 ∧
 ∀ (_k3 : Env) (i5l3 : Value) (w3 : World), L3 i5l3 w3 →
 pN Try.prog (oBi .len #[23] 3 [false] [x0]) w3 fun x15 w4 =>
 pN Try.prog (oBin .lss 3 (.tmp 13) (.tmp 15) i5l3 x15) w4 fun x16 w5 =>
 pGd (gB x16 false) (pN Try.prog (oMv i5l3) w5) w5 fun x18 w6 =>
 pGd (gB x16 false) (pN Try.prog (oBin .eql 3 (.tmp 18) (.const (.int .i64 0)) x18 (.int .i64 0)) w6) w6 fun x19 w7 =>
 pN Try.prog (oPick x16 (.bool true) x19) w7 fun x20 w8 =>
 pIf x20
 (∃ I4 : World → Prop,
 (∃ I8 : Value → World → Prop,
 (pN Try.prog (oBi .len #[23] 3 [false] [x0]) w8 fun x25 w9 =>
 pN Try.prog (oBin .lss 3 (.tmp 23) (.tmp 25) i5l3 x25) w9 fun x26 w10 =>
 pIf x26
 (pN Try.prog (oIdx 23 x0 i5l3) w10 fun x29 w11 =>
 pN Try.prog (oLoad 3 x29) w11 fun x30 w12 =>
 I8 x30 w12)
 (I8 (.int .i64 8) w10)) ∧
 ∀ (_j8 : Env) (n6c8 : Value) (w13 : World), I8 n6c8 w13 →
 ∃ I10 : Value → World → Prop,
 (pN Try.prog (oBin .lss 3 (.tmp 31) (.const (.int .i64 0)) n6c8 (.int .i64 0)) w13 fun x32 w14 =>
 pGd (gB x32 false) (pN Try.prog (oMv n6c8) w14) w14 fun x34 w15 =>
 pGd (gB x32 false) (pN Try.prog (oBin .gtr 3 (.tmp 34) (.const (.int .i64 4096)) x34 (.int .i64 4096)) w15) w15 fun x35 w16 =>
 pN Try.prog (oPick x32 (.bool true) x35) w16 fun x36 w17 =>
 pIf x36
 (I10 (.int .i64 4096) w17)
 (I10 n6c8 w17)) ∧
 ∀ (_j10 : Env) (n6c10 : Value) (w18 : World), I10 n6c10 w18 →
 pN Try.prog (oCall 45 [n6c10]) w18 fun x39 w19 =>
 pN Try.prog (oExt x39 0) w19 fun x40 w20 =>
 pN Try.prog (oExt x39 1) w20 fun x41 w21 =>
 pN Try.prog (oCall 46 [n6c10]) w21 fun x44 w22 =>
 pN Try.prog (oExt x44 0) w22 fun x45 w23 =>
 pN Try.prog (oExt x44 1) w23 fun _ w24 =>
 pN Try.prog (oBin .neq 27 (.tmp 47) (.const (.int .i64 0)) x41 (.int .i64 0)) w24 fun x48 w25 =>
 pGd (gB x48 false) (pN Try.prog (oMv x40) w25) w25 fun x50 w26 =>
 pGd (gB x48 false) (pN Try.prog (oBin .eql 34 (.tmp 50) (.const (.pointer none)) x50 (.pointer none)) w26) w26 fun x51 w27 =>
 pN Try.prog (oPick x48 (.bool true) x51) w27 fun x52 w28 =>
 pIf x52
 (Q (.tuple #[(.pointer none), (.bool false)]) w28)
 (pN Try.prog (oNil x12) w28 fun x55 w29 =>
 pN Try.prog (oFld 130 x55 0) w29 fun x56 w30 =>
 pN Try.prog (oLoad 127 x56) w30 fun x57 w31 =>
 pN Try.prog (oBs 127 1 [(0, x40)]) w31 fun x59 w32 =>
 pN Try.prog (oBi .append #[127, 127] 127 [false, false] [x57, x59]) w32 fun x60 w33 =>
 pN Try.prog (oNil x12) w33 fun x61 w34 =>
 pN Try.prog (oFld 130 x61 0) w34 fun x62 w35 =>
 pN Try.prog (oStore 127 x62 x60) w35 fun _ w36 =>
 pN Try.prog (oNil x12) w36 fun x65 w37 =>
 pN Try.prog (oFld 130 x65 1) w37 fun x66 w38 =>
 pN Try.prog (oLoad 128 x66) w38 fun x67 w39 =>
 pN Try.prog (oBs 128 1 [(0, x45)]) w39 fun x69 w40 =>
 pN Try.prog (oBi .append #[128, 128] 128 [false, false] [x67, x69]) w40 fun x70 w41 =>
 pN Try.prog (oNil x12) w41 fun x71 w42 =>
 pN Try.prog (oFld 130 x71 1) w42 fun x72 w43 =>
 pN Try.prog (oStore 128 x72 x70) w43 fun _ w44 =>
 I4 w44)) ∧
 ∀ (_j4 : Env) (w45 : World), I4 w45 →
 pN Try.prog (oBin .add 3 (.tmp 21) (.const (.int .i64 1)) i5l3 (.int .i64 1)) w45 fun x22 w46 =>
 (L3 x22 w46 ∧ m3 x22 w46 < m3 i5l3 w3))
 (Q (.tuple #[x12, (.bool true)]) w8)
noncomputable def pithlaw09_made.c : Code := match Try.f66.body with | some c => c | none => .skip
theorem pithlaw09_made.eq [Pan] (x0 : Value) (w : World) (Q : Value → World → Prop) : cw Try.prog pithlaw09_made.H pithlaw09_made.c (endQ Try.prog Try.f66.results.toList Q) (argsE [x0]) w = pithlaw09_made.F x0 w Q := by kernel_rfl
theorem pithlaw09_made.calls [Pan] {x0 : Value} {w : World} {Q : Value → World → Prop} (h : pithlaw09_made.F x0 w Q) : Calls Try.prog 66 #[x0] w (retP Q) :=
  calls_of_cw (H := pithlaw09_made.H) (c := pithlaw09_made.c) (args := [x0]) mixed Try.func66 (by kernel_rfl) (by kernel_rfl) (Nat.le_of_ble_eq_true (by kernel_rfl)) ((pithlaw09_made.eq x0 w Q).mpr h)

/-! pithlaw09_rows_codes: (*pith/pithlaw09.rows).codes; temporaries: 0:w 1:e 2:x 3:o 4:w 5:e 6:x 7:o 9:s 10:r 11:a 12:f 13:b 14:g 15:c 16:h 17:d 18:i -/
def pithlaw09_rows_codes.H : Hints := { cut := fun  | _ => none, loop := fun  | _ => ([], 0), order := fun | 1 => [(0, 0), (1, 1), (2, 3), (3, 7), (4, 15), (5, 31), (6, 63), (7, 127), (8, 255), (9, 511)] | 2 => [(0, 0), (1, 1), (2, 3), (3, 7), (4, 15), (5, 31), (6, 63), (7, 127), (8, 255), (9, 511)] | 5 => [(0, 0), (1, 1), (2, 3), (3, 7), (4, 15), (5, 31), (6, 63), (7, 127), (9, 255), (10, 767), (11, 1791), (12, 3839), (13, 7935), (14, 16127), (15, 32511), (16, 65279), (8, 130815), (17, 131071), (18, 262143), (19, 524287)] | 7 => [(0, 0), (1, 1), (2, 3), (3, 7), (4, 15), (5, 31), (6, 63), (7, 127), (9, 255), (10, 767), (11, 1791), (12, 3839), (13, 7935), (14, 16127), (15, 32511), (16, 65279), (8, 130815), (17, 131071), (18, 262143), (19, 524287)] | 9 => [(0, 0), (1, 1), (2, 3), (3, 7), (4, 15), (5, 31), (7, 63), (8, 191), (9, 447), (10, 959), (11, 1983), (12, 4031), (6, 8127), (13, 8191), (14, 16383), (15, 32767)] | 11 => [(0, 0), (1, 1), (2, 3), (3, 7), (4, 15), (5, 31), (7, 63), (8, 191), (9, 447), (10, 959), (11, 1983), (12, 4031), (6, 8127), (13, 8191), (14, 16383), (15, 32767)] | _ => [] }
def pithlaw09_rows_codes.F [Pan] (x0 : Value) (x1 : Value) (x2 : Value) (x3 : Value) (w : World) (Q : Value → World → Prop) : Prop :=
 pN Try.prog (oBox 116 x3) w fun x7 w1 =>
 pDr w1 fun w2 =>
 pA Try.prog (oNil x0) fun x20 =>
 pA Try.prog (oFld 130 x20 0) fun x21 =>
 pL Try.prog (oLoad 127 x21) w2 fun x22 =>
 pL Try.prog (oLoad 116 x7) w2 fun x24 =>
 pN Try.prog (oCall 98 [x0, x24]) w2 fun x25 w3 =>
 ((Sem.run Try.prog (oLoad 127 x21) w3 = .ok (.value x22) w3) ∧ True) ∧ (pA Try.prog (oIdx 127 x22 x25) fun x26 =>
 pL Try.prog (oLoad 34 x26) w3 fun x27 =>
 pDr w3 fun w4 =>
 pA Try.prog (oNil x0) fun x29 =>
 pA Try.prog (oFld 130 x29 1) fun x30 =>
 pL Try.prog (oLoad 128 x30) w4 fun x31 =>
 pL Try.prog (oLoad 116 x7) w4 fun x33 =>
 pN Try.prog (oCall 98 [x0, x33]) w4 fun x34 w5 =>
 ((Sem.run Try.prog (oLoad 128 x30) w5 = .ok (.value x31) w5) ∧ True) ∧ (pA Try.prog (oIdx 128 x31 x34) fun x35 =>
 pL Try.prog (oLoad 51 x35) w5 fun x36 =>
 pN Try.prog (oFld 116 x7 0) w5 fun x37 w6 =>
 pN Try.prog (oLoad 3 x37) w6 fun x38 w7 =>
 pN Try.prog (oBin .eql 3 (.tmp 38) (.const (.int .i64 0)) x38 (.int .i64 0)) w7 fun x40 w8 =>
 pIf x40
 (pDr w8 fun w9 =>
 pA Try.prog (oFld 116 x7 2) fun x43 =>
 pL Try.prog (oLoad 3 x43) w9 fun x44 =>
 pA Try.prog (oFld 116 x7 3) fun x45 =>
 pL Try.prog (oLoad 3 x45) w9 fun x46 =>
 pA Try.prog (oFld 116 x7 4) fun x47 =>
 pL Try.prog (oLoad 3 x47) w9 fun x48 =>
 pA Try.prog (oFld 116 x7 2) fun x52 =>
 pL Try.prog (oLoad 3 x52) w9 fun x53 =>
 pA Try.prog (oFld 116 x7 3) fun x54 =>
 pL Try.prog (oLoad 3 x54) w9 fun x55 =>
 pA Try.prog (oFld 116 x7 4) fun x56 =>
 pL Try.prog (oLoad 3 x56) w9 fun x57 =>
 pN Try.prog (oCall 61 [x1, x27, x44, x46, x48]) w9 fun x49 w10 =>
 ((Sem.run Try.prog (oLoad 3 x56) w10 = .ok (.value x57) w10) ∧ (Sem.run Try.prog (oLoad 3 x54) w10 = .ok (.value x55) w10) ∧ (Sem.run Try.prog (oLoad 3 x52) w10 = .ok (.value x53) w10) ∧ True) ∧ (pN Try.prog (oCall 99 [x2, x36, x53, x55, x57, (.bool false)]) w10 fun x58 w11 =>
 (True) ∧ (pA Try.prog (oBin .eql 3 (.tmp 49) (.tmp 58) x49 x58) fun x59 =>
 Q x59 w11)))
 (pN Try.prog (oBin .eql 3 (.tmp 38) (.const (.int .i64 1)) x38 (.int .i64 1)) w8 fun x61 w12 =>
 pIf x61
 (pDr w12 fun w13 =>
 pA Try.prog (oFld 116 x7 2) fun x64 =>
 pL Try.prog (oLoad 3 x64) w13 fun x65 =>
 pA Try.prog (oFld 116 x7 3) fun x66 =>
 pL Try.prog (oLoad 3 x66) w13 fun x67 =>
 pA Try.prog (oFld 116 x7 4) fun x68 =>
 pL Try.prog (oLoad 3 x68) w13 fun x69 =>
 pA Try.prog (oFld 116 x7 2) fun x73 =>
 pL Try.prog (oLoad 3 x73) w13 fun x74 =>
 pA Try.prog (oFld 116 x7 3) fun x75 =>
 pL Try.prog (oLoad 3 x75) w13 fun x76 =>
 pA Try.prog (oFld 116 x7 4) fun x77 =>
 pL Try.prog (oLoad 3 x77) w13 fun x78 =>
 pN Try.prog (oCall 60 [x1, x27, x65, x67, x69]) w13 fun x70 w14 =>
 ((Sem.run Try.prog (oLoad 3 x77) w14 = .ok (.value x78) w14) ∧ (Sem.run Try.prog (oLoad 3 x75) w14 = .ok (.value x76) w14) ∧ (Sem.run Try.prog (oLoad 3 x73) w14 = .ok (.value x74) w14) ∧ True) ∧ (pN Try.prog (oCall 99 [x2, x36, x74, x76, x78, (.bool true)]) w14 fun x79 w15 =>
 (True) ∧ (pA Try.prog (oBin .eql 3 (.tmp 70) (.tmp 79) x70 x79) fun x80 =>
 Q x80 w15)))
 (pN Try.prog (oBin .eql 3 (.tmp 38) (.const (.int .i64 3)) x38 (.int .i64 3)) w12 fun x82 w16 =>
 pIf x82
 (pDr w16 fun w17 =>
 pA Try.prog (oFld 116 x7 2) fun x85 =>
 pL Try.prog (oLoad 3 x85) w17 fun x86 =>
 pA Try.prog (oFld 116 x7 4) fun x87 =>
 pL Try.prog (oLoad 3 x87) w17 fun x88 =>
 pA Try.prog (oFld 116 x7 2) fun x92 =>
 pL Try.prog (oLoad 3 x92) w17 fun x93 =>
 pA Try.prog (oFld 116 x7 4) fun x94 =>
 pL Try.prog (oLoad 3 x94) w17 fun x95 =>
 pN Try.prog (oCall 27 [x1, x27, x86, x88]) w17 fun x89 w18 =>
 ((Sem.run Try.prog (oLoad 3 x94) w18 = .ok (.value x95) w18) ∧ (Sem.run Try.prog (oLoad 3 x92) w18 = .ok (.value x93) w18) ∧ True) ∧ (pN Try.prog (oCall 31 [x2, x36, x93, x95]) w18 fun x96 w19 =>
 (True) ∧ (pA Try.prog (oBin .eql 3 (.tmp 89) (.tmp 96) x89 x96) fun x97 =>
 Q x97 w19)))
 (pN Try.prog (oBin .eql 3 (.tmp 38) (.const (.int .i64 4)) x38 (.int .i64 4)) w16 fun x99 w20 =>
 pIf x99
 (pDr w20 fun w21 =>
 pA Try.prog (oFld 116 x7 4) fun x101 =>
 pL Try.prog (oLoad 3 x101) w21 fun x102 =>
 pL Try.prog (oConv 3 26 x102) w21 fun x103 =>
 pA Try.prog (oFld 116 x7 3) fun x104 =>
 pL Try.prog (oLoad 3 x104) w21 fun x105 =>
 pA Try.prog (oFld 116 x7 4) fun x108 =>
 pL Try.prog (oLoad 3 x108) w21 fun x109 =>
 pL Try.prog (oConv 3 26 x109) w21 fun x110 =>
 pA Try.prog (oFld 116 x7 3) fun x111 =>
 pL Try.prog (oLoad 3 x111) w21 fun x112 =>
 pN Try.prog (oCall 19 [x1, x103, x105]) w21 fun x106 w22 =>
 ((Sem.run Try.prog (oLoad 3 x111) w22 = .ok (.value x112) w22) ∧ (Sem.run Try.prog (oConv 3 26 x109) w22 = .ok (.value x110) w22) ∧ (Sem.run Try.prog (oLoad 3 x108) w22 = .ok (.value x109) w22) ∧ True) ∧ (pN Try.prog (oCall 32 [x2, x110, x112]) w22 fun x113 w23 =>
 (True) ∧ (pA Try.prog (oBin .eql 3 (.tmp 106) (.tmp 113) x106 x113) fun x114 =>
 Q x114 w23)))
 (pN Try.prog (oFld 116 x7 2) w20 fun x117 w24 =>
 pN Try.prog (oLoad 3 x117) w24 fun x118 w25 =>
 pN Try.prog (oFld 116 x7 3) w25 fun x119 w26 =>
 pN Try.prog (oLoad 3 x119) w26 fun x120 w27 =>
 pN Try.prog (oFld 116 x7 4) w27 fun x121 w28 =>
 pN Try.prog (oLoad 3 x121) w28 fun x122 w29 =>
 pN Try.prog (oCall 58 [x27, x118, x120, x122]) w29 fun x123 w30 =>
 pN Try.prog (oExt x123 0) w30 fun x124 w31 =>
 pN Try.prog (oExt x123 1) w31 fun x125 w32 =>
 pN Try.prog (oFld 116 x7 2) w32 fun x128 w33 =>
 pN Try.prog (oLoad 3 x128) w33 fun x129 w34 =>
 pN Try.prog (oFld 116 x7 3) w34 fun x130 w35 =>
 pN Try.prog (oLoad 3 x130) w35 fun x131 w36 =>
 pN Try.prog (oFld 116 x7 4) w36 fun x132 w37 =>
 pN Try.prog (oLoad 3 x132) w37 fun x133 w38 =>
 pN Try.prog (oCall 100 [x36, x129, x131, x133, (.bool false)]) w38 fun x134 w39 =>
 pN Try.prog (oExt x134 0) w39 fun x135 w40 =>
 pN Try.prog (oExt x134 1) w40 fun x136 w41 =>
 pN Try.prog (oFld 116 x7 2) w41 fun x139 w42 =>
 pN Try.prog (oLoad 3 x139) w42 fun x140 w43 =>
 pN Try.prog (oFld 116 x7 3) w43 fun x141 w44 =>
 pN Try.prog (oLoad 3 x141) w44 fun x142 w45 =>
 pN Try.prog (oFld 116 x7 4) w45 fun x143 w46 =>
 pN Try.prog (oLoad 3 x143) w46 fun x144 w47 =>
 pN Try.prog (oCall 59 [x27, x140, x142, x144]) w47 fun x145 w48 =>
 pN Try.prog (oExt x145 0) w48 fun x146 w49 =>
 pN Try.prog (oExt x145 1) w49 fun x147 w50 =>
 pN Try.prog (oFld 116 x7 2) w50 fun x150 w51 =>
 pN Try.prog (oLoad 3 x150) w51 fun x151 w52 =>
 pN Try.prog (oFld 116 x7 3) w52 fun x152 w53 =>
 pN Try.prog (oLoad 3 x152) w53 fun x153 w54 =>
 pN Try.prog (oFld 116 x7 4) w54 fun x154 w55 =>
 pN Try.prog (oLoad 3 x154) w55 fun x155 w56 =>
 pN Try.prog (oCall 100 [x36, x151, x153, x155, (.bool true)]) w56 fun x156 w57 =>
 pN Try.prog (oExt x156 0) w57 fun x157 w58 =>
 pN Try.prog (oExt x156 1) w58 fun x158 w59 =>
 pN Try.prog (oBin .eql 3 (.tmp 159) (.tmp 160) x124 x135) w59 fun x161 w60 =>
 pGd (gB x161 true) (pN Try.prog (oMv x125) w60) w60 fun x163 w61 =>
 pGd (gB x161 true) (pN Try.prog (oMv x136) w61) w61 fun x164 w62 =>
 pGd (gB x161 true) (pN Try.prog (oBin .eql 3 (.tmp 163) (.tmp 164) x163 x164) w62) w62 fun x165 w63 =>
 pN Try.prog (oPick x161 x165 (.bool false)) w63 fun x166 w64 =>
 pGd (gB x166 true) (pN Try.prog (oMv x146) w64) w64 fun x168 w65 =>
 pGd (gB x166 true) (pN Try.prog (oMv x157) w65) w65 fun x169 w66 =>
 pGd (gB x166 true) (pN Try.prog (oBin .eql 3 (.tmp 168) (.tmp 169) x168 x169) w66) w66 fun x170 w67 =>
 pN Try.prog (oPick x166 x170 (.bool false)) w67 fun x171 w68 =>
 pGd (gB x171 true) (pN Try.prog (oMv x147) w68) w68 fun x173 w69 =>
 pGd (gB x171 true) (pN Try.prog (oMv x158) w69) w69 fun x174 w70 =>
 pGd (gB x171 true) (pN Try.prog (oBin .eql 3 (.tmp 173) (.tmp 174) x173 x174) w70) w70 fun x175 w71 =>
 pN Try.prog (oPick x171 x175 (.bool false)) w71 fun x176 w72 =>
 Q x176 w72))))))
noncomputable def pithlaw09_rows_codes.c : Code := match Try.f67.body with | some c => c | none => .skip
theorem pithlaw09_rows_codes.eq [Pan] (x0 : Value) (x1 : Value) (x2 : Value) (x3 : Value) (w : World) (Q : Value → World → Prop) : cw Try.prog pithlaw09_rows_codes.H pithlaw09_rows_codes.c (endQ Try.prog Try.f67.results.toList Q) (argsE [x0, x1, x2, x3]) w = pithlaw09_rows_codes.F x0 x1 x2 x3 w Q := by kernel_rfl
theorem pithlaw09_rows_codes.calls [Pan] {x0 : Value} {x1 : Value} {x2 : Value} {x3 : Value} {w : World} {Q : Value → World → Prop} (h : pithlaw09_rows_codes.F x0 x1 x2 x3 w Q) : Calls Try.prog 67 #[x0, x1, x2, x3] w (retP Q) :=
  calls_of_cw (H := pithlaw09_rows_codes.H) (c := pithlaw09_rows_codes.c) (args := [x0, x1, x2, x3]) mixed Try.func67 (by kernel_rfl) (by kernel_rfl) (Nat.le_of_ble_eq_true (by kernel_rfl)) ((pithlaw09_rows_codes.eq x0 x1 x2 x3 w Q).mpr h)

/-! pithlaw09_rows_same: (*pith/pithlaw09.rows).same; temporaries: 0:w 1:w 3:k 4:i 5:p 6:e -/
def pithlaw09_rows_same.H : Hints := { cut := fun  | _ => none, loop := fun | 2 => ([3], 4611686018427387900) | 5 => ([4], 4611686018427322484) | _ => ([], 0), order := fun  | _ => [] }
def pithlaw09_rows_same.F [Pan] (x0 : Value) (w : World) (Q : Value → World → Prop) : Prop :=
 ∃ (L2 : Value → World → Prop) (m2 : Value → World → Nat),
 L2 (.int .i64 0) w ∧
 ∀ (_k2 : Env) (k3l2 : Value) (w1 : World), L2 k3l2 w1 →
 pN Try.prog (oNil x0) w1 fun x9 w2 =>
 pN Try.prog (oFld 130 x9 0) w2 fun x10 w3 =>
 pN Try.prog (oLoad 127 x10) w3 fun x11 w4 =>
 pN Try.prog (oBi .len #[127] 3 [false] [x11]) w4 fun x12 w5 =>
 pN Try.prog (oBin .lss 3 (.tmp 7) (.tmp 12) k3l2 x12) w5 fun x13 w6 =>
 pIf x13
 (∃ (L5 : Value → World → Prop) (m5 : Value → World → Nat),
 L5 (.int .i64 0) w6 ∧
 ∀ (_k5 : Env) (i4l5 : Value) (w7 : World), L5 i4l5 w7 →
 pN Try.prog (oNil x0) w7 fun x18 w8 =>
 pN Try.prog (oFld 130 x18 1) w8 fun x19 w9 =>
 pN Try.prog (oLoad 128 x19) w9 fun x20 w10 =>
 pN Try.prog (oIdx 128 x20 k3l2) w10 fun x22 w11 =>
 pN Try.prog (oLoad 51 x22) w11 fun x23 w12 =>
 pN Try.prog (oNil x23) w12 fun x24 w13 =>
 pN Try.prog (oFld 145 x24 1) w13 fun x25 w14 =>
 pN Try.prog (oLoad 23 x25) w14 fun x26 w15 =>
 pN Try.prog (oBi .len #[23] 3 [false] [x26]) w15 fun x27 w16 =>
 pN Try.prog (oBin .lss 3 (.tmp 16) (.tmp 27) i4l5 x27) w16 fun x28 w17 =>
 pIf x28
 (pN Try.prog (oNil x0) w17 fun x33 w18 =>
 pN Try.prog (oFld 130 x33 0) w18 fun x34 w19 =>
 pN Try.prog (oLoad 127 x34) w19 fun x35 w20 =>
 pN Try.prog (oIdx 127 x35 k3l2) w20 fun x37 w21 =>
 pN Try.prog (oLoad 34 x37) w21 fun x38 w22 =>
 pN Try.prog (oCall 28 [x38, i4l5]) w22 fun x40 w23 =>
 pN Try.prog (oExt x40 0) w23 fun x41 w24 =>
 pN Try.prog (oExt x40 1) w24 fun x42 w25 =>
 pN Try.prog (oBin .neq 27 (.tmp 43) (.const (.int .i64 0)) x42 (.int .i64 0)) w25 fun x44 w26 =>
 pGd (gB x44 false) (pN Try.prog (oMv x41) w26) w26 fun x46 w27 =>
 pGd (gB x44 false) (pN Try.prog (oMv x0) w27) w27 fun x47 w28 =>
 pGd (gB x44 false) (pN Try.prog (oNil x47) w28) w28 fun x48 w29 =>
 pGd (gB x44 false) (pN Try.prog (oFld 130 x48 1) w29) w29 fun x49 w30 =>
 pGd (gB x44 false) (pN Try.prog (oLoad 128 x49) w30) w30 fun x50 w31 =>
 pGd (gB x44 false) (pN Try.prog (oMv k3l2) w31) w31 fun x51 w32 =>
 pGd (gB x44 false) (pN Try.prog (oIdx 128 x50 x51) w32) w32 fun x52 w33 =>
 pGd (gB x44 false) (pN Try.prog (oLoad 51 x52) w33) w33 fun x53 w34 =>
 pGd (gB x44 false) (pN Try.prog (oNil x53) w34) w34 fun x54 w35 =>
 pGd (gB x44 false) (pN Try.prog (oFld 145 x54 1) w35) w35 fun x55 w36 =>
 pGd (gB x44 false) (pN Try.prog (oLoad 23 x55) w36) w36 fun x56 w37 =>
 pGd (gB x44 false) (pN Try.prog (oMv i4l5) w37) w37 fun x57 w38 =>
 pGd (gB x44 false) (pN Try.prog (oIdx 23 x56 x57) w38) w38 fun x58 w39 =>
 pGd (gB x44 false) (pN Try.prog (oLoad 3 x58) w39) w39 fun x59 w40 =>
 pGd (gB x44 false) (pN Try.prog (oBin .neq 3 (.tmp 46) (.tmp 59) x46 x59) w40) w40 fun x60 w41 =>
 pN Try.prog (oPick x44 (.bool true) x60) w41 fun x61 w42 =>
 pIf x61
 (Q (.bool false) w42)
 (pN Try.prog (oBin .add 3 (.tmp 29) (.const (.int .i64 1)) i4l5 (.int .i64 1)) w42 fun x30 w43 =>
 (L5 x30 w43 ∧ m5 x30 w43 < m5 i4l5 w7)))
 (pN Try.prog (oBin .add 3 (.tmp 14) (.const (.int .i64 1)) k3l2 (.int .i64 1)) w17 fun x15 w44 =>
 (L2 x15 w44 ∧ m2 x15 w44 < m2 k3l2 w1)))
 (Q (.bool true) w6)
noncomputable def pithlaw09_rows_same.c : Code := match Try.f68.body with | some c => c | none => .skip
theorem pithlaw09_rows_same.eq [Pan] (x0 : Value) (w : World) (Q : Value → World → Prop) : cw Try.prog pithlaw09_rows_same.H pithlaw09_rows_same.c (endQ Try.prog Try.f68.results.toList Q) (argsE [x0]) w = pithlaw09_rows_same.F x0 w Q := by kernel_rfl
theorem pithlaw09_rows_same.calls [Pan] {x0 : Value} {w : World} {Q : Value → World → Prop} (h : pithlaw09_rows_same.F x0 w Q) : Calls Try.prog 68 #[x0] w (retP Q) :=
  calls_of_cw (H := pithlaw09_rows_same.H) (c := pithlaw09_rows_same.c) (args := [x0]) mixed Try.func68 (by kernel_rfl) (by kernel_rfl) (Nat.le_of_ble_eq_true (by kernel_rfl)) ((pithlaw09_rows_same.eq x0 w Q).mpr h)

/-! pithlaw09_rows_reads: (*pith/pithlaw09.rows).reads; temporaries: 0:w 1:d 2:x 3:o 4:w 5:d 6:x 7:o 9:s 10:r 11:v 12:u 13:e 14:f 15:a 16:g 17:b 18:h -/
def pithlaw09_rows_reads.H : Hints := { cut := fun | 20 => some ([11, 12, 13, 14], 42535295865117307932921825791532595456) | _ => none, loop := fun  | _ => ([], 0), order := fun | 1 => [(0, 0), (1, 1), (2, 3), (3, 7), (4, 15), (5, 31), (6, 63), (7, 127), (8, 255), (9, 511)] | 2 => [(0, 0), (1, 1), (2, 3), (3, 7), (4, 15), (5, 31), (6, 63), (7, 127), (8, 255), (9, 511)] | _ => [] }
def pithlaw09_rows_reads.F [Pan] (x0 : Value) (x1 : Value) (x2 : Value) (x3 : Value) (w : World) (Q : Value → World → Prop) : Prop :=
 pN Try.prog (oBox 116 x3) w fun x7 w1 =>
 pDr w1 fun w2 =>
 pA Try.prog (oNil x0) fun x20 =>
 pA Try.prog (oFld 130 x20 0) fun x21 =>
 pL Try.prog (oLoad 127 x21) w2 fun x22 =>
 pL Try.prog (oLoad 116 x7) w2 fun x24 =>
 pN Try.prog (oCall 98 [x0, x24]) w2 fun x25 w3 =>
 ((Sem.run Try.prog (oLoad 127 x21) w3 = .ok (.value x22) w3) ∧ True) ∧ (pA Try.prog (oIdx 127 x22 x25) fun x26 =>
 pL Try.prog (oLoad 34 x26) w3 fun x27 =>
 pDr w3 fun w4 =>
 pA Try.prog (oNil x0) fun x29 =>
 pA Try.prog (oFld 130 x29 1) fun x30 =>
 pL Try.prog (oLoad 128 x30) w4 fun x31 =>
 pL Try.prog (oLoad 116 x7) w4 fun x33 =>
 pN Try.prog (oCall 98 [x0, x33]) w4 fun x34 w5 =>
 ((Sem.run Try.prog (oLoad 128 x30) w5 = .ok (.value x31) w5) ∧ True) ∧ (pA Try.prog (oIdx 128 x31 x34) fun x35 =>
 pL Try.prog (oLoad 51 x35) w5 fun x36 =>
 ∃ I20 : Value → Value → Value → Value → World → Prop,
 (pN Try.prog (oFld 116 x7 0) w5 fun x37 w6 =>
 pN Try.prog (oLoad 3 x37) w6 fun x38 w7 =>
 pN Try.prog (oBin .eql 3 (.tmp 38) (.const (.int .i64 0)) x38 (.int .i64 0)) w7 fun x40 w8 =>
 pIf x40
 (pN Try.prog (oFld 116 x7 2) w8 fun x44 w9 =>
 pN Try.prog (oLoad 3 x44) w9 fun x45 w10 =>
 pN Try.prog (oFld 116 x7 3) w10 fun x46 w11 =>
 pN Try.prog (oLoad 3 x46) w11 fun x47 w12 =>
 pN Try.prog (oCall 101 [x1, x27, x45, x47]) w12 fun x48 w13 =>
 pN Try.prog (oExt x48 0) w13 fun x49 w14 =>
 pN Try.prog (oExt x48 1) w14 fun x50 w15 =>
 pN Try.prog (oFld 116 x7 2) w15 fun x54 w16 =>
 pN Try.prog (oLoad 3 x54) w16 fun x55 w17 =>
 pN Try.prog (oFld 116 x7 3) w17 fun x56 w18 =>
 pN Try.prog (oLoad 3 x56) w18 fun x57 w19 =>
 pN Try.prog (oCall 102 [x2, x36, x55, x57, (.bool false)]) w19 fun x58 w20 =>
 pN Try.prog (oExt x58 0) w20 fun x59 w21 =>
 pN Try.prog (oExt x58 1) w21 fun x60 w22 =>
 I20 x49 x59 x50 x60 w22)
 (pN Try.prog (oBin .eql 3 (.tmp 38) (.const (.int .i64 1)) x38 (.int .i64 1)) w8 fun x62 w23 =>
 pIf x62
 (pN Try.prog (oFld 116 x7 2) w23 fun x66 w24 =>
 pN Try.prog (oLoad 3 x66) w24 fun x67 w25 =>
 pN Try.prog (oFld 116 x7 3) w25 fun x68 w26 =>
 pN Try.prog (oLoad 3 x68) w26 fun x69 w27 =>
 pN Try.prog (oCall 103 [x1, x27, x67, x69]) w27 fun x70 w28 =>
 pN Try.prog (oExt x70 0) w28 fun x71 w29 =>
 pN Try.prog (oExt x70 1) w29 fun x72 w30 =>
 pN Try.prog (oFld 116 x7 2) w30 fun x76 w31 =>
 pN Try.prog (oLoad 3 x76) w31 fun x77 w32 =>
 pN Try.prog (oFld 116 x7 3) w32 fun x78 w33 =>
 pN Try.prog (oLoad 3 x78) w33 fun x79 w34 =>
 pN Try.prog (oCall 102 [x2, x36, x77, x79, (.bool true)]) w34 fun x80 w35 =>
 pN Try.prog (oExt x80 0) w35 fun x81 w36 =>
 pN Try.prog (oExt x80 1) w36 fun x82 w37 =>
 I20 x71 x81 x72 x82 w37)
 (pN Try.prog (oBin .eql 3 (.tmp 38) (.const (.int .i64 3)) x38 (.int .i64 3)) w23 fun x84 w38 =>
 pIf x84
 (pN Try.prog (oFld 116 x7 2) w38 fun x88 w39 =>
 pN Try.prog (oLoad 3 x88) w39 fun x89 w40 =>
 pN Try.prog (oCall 49 [x1, x27, x89]) w40 fun x90 w41 =>
 pN Try.prog (oExt x90 0) w41 fun x91 w42 =>
 pN Try.prog (oExt x90 1) w42 fun x92 w43 =>
 pN Try.prog (oFld 116 x7 2) w43 fun x96 w44 =>
 pN Try.prog (oLoad 3 x96) w44 fun x97 w45 =>
 pN Try.prog (oCall 50 [x2, x36, x97]) w45 fun x98 w46 =>
 pN Try.prog (oExt x98 0) w46 fun x99 w47 =>
 pN Try.prog (oExt x98 1) w47 fun x100 w48 =>
 I20 x91 x99 x92 x100 w48)
 (pN Try.prog (oBin .eql 3 (.tmp 38) (.const (.int .i64 4)) x38 (.int .i64 4)) w38 fun x102 w49 =>
 pIf x102
 (pN Try.prog (oFld 116 x7 3) w49 fun x105 w50 =>
 pN Try.prog (oLoad 3 x105) w50 fun x106 w51 =>
 pN Try.prog (oCall 47 [x1, x106]) w51 fun x107 w52 =>
 pN Try.prog (oExt x107 0) w52 fun x108 w53 =>
 pN Try.prog (oExt x107 1) w53 fun x109 w54 =>
 pN Try.prog (oFld 116 x7 3) w54 fun x112 w55 =>
 pN Try.prog (oLoad 3 x112) w55 fun x113 w56 =>
 pN Try.prog (oCall 48 [x2, x113]) w56 fun x114 w57 =>
 pN Try.prog (oExt x114 0) w57 fun x115 w58 =>
 pN Try.prog (oExt x114 1) w58 fun x116 w59 =>
 pN Try.prog (oBin .eql 26 (.tmp 117) (.tmp 118) x108 x115) w59 fun x119 w60 =>
 pGd (gB x119 true) (pN Try.prog (oMv x109) w60) w60 fun x121 w61 =>
 pGd (gB x119 true) (pN Try.prog (oMv x116) w61) w61 fun x122 w62 =>
 pGd (gB x119 true) (pN Try.prog (oBin .eql 3 (.tmp 121) (.tmp 122) x121 x122) w62) w62 fun x123 w63 =>
 pN Try.prog (oPick x119 x123 (.bool false)) w63 fun x124 w64 =>
 Q x124 w64)
 (I20 (.int .i64 0) (.int .i64 0) (.int .i64 0) (.int .i64 0) w49))))) ∧
 ∀ (_j20 : Env) (v11c20 : Value) (u12c20 : Value) (e13c20 : Value) (f14c20 : Value) (w65 : World), I20 v11c20 u12c20 e13c20 f14c20 w65 →
 pN Try.prog (oBin .eql 3 (.tmp 125) (.tmp 126) v11c20 u12c20) w65 fun x127 w66 =>
 pGd (gB x127 true) (pN Try.prog (oMv e13c20) w66) w66 fun x129 w67 =>
 pGd (gB x127 true) (pN Try.prog (oMv f14c20) w67) w67 fun x130 w68 =>
 pGd (gB x127 true) (pN Try.prog (oBin .eql 3 (.tmp 129) (.tmp 130) x129 x130) w68) w68 fun x131 w69 =>
 pN Try.prog (oPick x127 x131 (.bool false)) w69 fun x132 w70 =>
 Q x132 w70))
noncomputable def pithlaw09_rows_reads.c : Code := match Try.f71.body with | some c => c | none => .skip
theorem pithlaw09_rows_reads.eq [Pan] (x0 : Value) (x1 : Value) (x2 : Value) (x3 : Value) (w : World) (Q : Value → World → Prop) : cw Try.prog pithlaw09_rows_reads.H pithlaw09_rows_reads.c (endQ Try.prog Try.f71.results.toList Q) (argsE [x0, x1, x2, x3]) w = pithlaw09_rows_reads.F x0 x1 x2 x3 w Q := by kernel_rfl
theorem pithlaw09_rows_reads.calls [Pan] {x0 : Value} {x1 : Value} {x2 : Value} {x3 : Value} {w : World} {Q : Value → World → Prop} (h : pithlaw09_rows_reads.F x0 x1 x2 x3 w Q) : Calls Try.prog 71 #[x0, x1, x2, x3] w (retP Q) :=
  calls_of_cw (H := pithlaw09_rows_reads.H) (c := pithlaw09_rows_reads.c) (args := [x0, x1, x2, x3]) mixed Try.func71 (by kernel_rfl) (by kernel_rfl) (Nat.le_of_ble_eq_true (by kernel_rfl)) ((pithlaw09_rows_reads.eq x0 x1 x2 x3 w Q).mpr h)

/-! pithlaw09_rows_given: (*pith/pithlaw09.rows).given; temporaries: 0:w 1:e 2:o 3:w 4:e 5:o 7:s -/
def pithlaw09_rows_given.H : Hints := { cut := fun  | _ => none, loop := fun  | _ => ([], 0), order := fun | 1 => [(0, 0), (1, 1), (2, 3), (3, 7), (4, 15), (5, 31), (6, 63), (7, 127), (8, 255), (9, 511)] | _ => [] }
def pithlaw09_rows_given.F [Pan] (x0 : Value) (x1 : Value) (x2 : Value) (w : World) (Q : Value → World → Prop) : Prop :=
 pN Try.prog (oBox 116 x2) w fun x5 w1 =>
 pDr w1 fun w2 =>
 pA Try.prog (oNil x0) fun x9 =>
 pA Try.prog (oFld 130 x9 0) fun x10 =>
 pL Try.prog (oLoad 127 x10) w2 fun x11 =>
 pL Try.prog (oLoad 116 x5) w2 fun x13 =>
 pN Try.prog (oCall 98 [x0, x13]) w2 fun x14 w3 =>
 ((Sem.run Try.prog (oLoad 127 x10) w3 = .ok (.value x11) w3) ∧ True) ∧ (pA Try.prog (oIdx 127 x11 x14) fun x15 =>
 pL Try.prog (oLoad 34 x15) w3 fun x16 =>
 pN Try.prog (oFld 116 x5 0) w3 fun x17 w4 =>
 pN Try.prog (oLoad 3 x17) w4 fun x18 w5 =>
 pN Try.prog (oBin .eql 3 (.tmp 18) (.const (.int .i64 0)) x18 (.int .i64 0)) w5 fun x20 w6 =>
 pIf x20
 (pN Try.prog (oFld 116 x5 2) w6 fun x23 w7 =>
 pN Try.prog (oLoad 3 x23) w7 fun x24 w8 =>
 pN Try.prog (oFld 116 x5 3) w8 fun x25 w9 =>
 pN Try.prog (oLoad 3 x25) w9 fun x26 w10 =>
 pN Try.prog (oFld 116 x5 4) w10 fun x27 w11 =>
 pN Try.prog (oLoad 3 x27) w11 fun x28 w12 =>
 pN Try.prog (oCall 61 [x1, x16, x24, x26, x28]) w12 fun x29 w13 =>
 pN Try.prog (oBin .eql 27 (.tmp 29) (.const (.int .i64 0)) x29 (.int .i64 0)) w13 fun x30 w14 =>
 Q x30 w14)
 (pN Try.prog (oBin .eql 3 (.tmp 18) (.const (.int .i64 1)) x18 (.int .i64 1)) w6 fun x32 w15 =>
 pIf x32
 (pN Try.prog (oFld 116 x5 2) w15 fun x35 w16 =>
 pN Try.prog (oLoad 3 x35) w16 fun x36 w17 =>
 pN Try.prog (oFld 116 x5 3) w17 fun x37 w18 =>
 pN Try.prog (oLoad 3 x37) w18 fun x38 w19 =>
 pN Try.prog (oFld 116 x5 4) w19 fun x39 w20 =>
 pN Try.prog (oLoad 3 x39) w20 fun x40 w21 =>
 pN Try.prog (oCall 60 [x1, x16, x36, x38, x40]) w21 fun x41 w22 =>
 pN Try.prog (oBin .eql 27 (.tmp 41) (.const (.int .i64 0)) x41 (.int .i64 0)) w22 fun x42 w23 =>
 Q x42 w23)
 (pN Try.prog (oBin .eql 3 (.tmp 18) (.const (.int .i64 3)) x18 (.int .i64 3)) w15 fun x44 w24 =>
 pIf x44
 (pN Try.prog (oFld 116 x5 2) w24 fun x47 w25 =>
 pN Try.prog (oLoad 3 x47) w25 fun x48 w26 =>
 pN Try.prog (oFld 116 x5 4) w26 fun x49 w27 =>
 pN Try.prog (oLoad 3 x49) w27 fun x50 w28 =>
 pN Try.prog (oCall 27 [x1, x16, x48, x50]) w28 fun x51 w29 =>
 pN Try.prog (oBin .eql 27 (.tmp 51) (.const (.int .i64 0)) x51 (.int .i64 0)) w29 fun x52 w30 =>
 Q x52 w30)
 (pN Try.prog (oBin .eql 3 (.tmp 18) (.const (.int .i64 4)) x18 (.int .i64 4)) w24 fun x54 w31 =>
 pIf x54
 (pN Try.prog (oFld 116 x5 4) w31 fun x56 w32 =>
 pN Try.prog (oLoad 3 x56) w32 fun x57 w33 =>
 pN Try.prog (oConv 3 26 x57) w33 fun x58 w34 =>
 pN Try.prog (oFld 116 x5 3) w34 fun x59 w35 =>
 pN Try.prog (oLoad 3 x59) w35 fun x60 w36 =>
 pN Try.prog (oCall 19 [x1, x58, x60]) w36 fun x61 w37 =>
 pN Try.prog (oBin .eql 27 (.tmp 61) (.const (.int .i64 0)) x61 (.int .i64 0)) w37 fun x62 w38 =>
 Q x62 w38)
 (Q (.bool false) w31)))))
noncomputable def pithlaw09_rows_given.c : Code := match Try.f72.body with | some c => c | none => .skip
theorem pithlaw09_rows_given.eq [Pan] (x0 : Value) (x1 : Value) (x2 : Value) (w : World) (Q : Value → World → Prop) : cw Try.prog pithlaw09_rows_given.H pithlaw09_rows_given.c (endQ Try.prog Try.f72.results.toList Q) (argsE [x0, x1, x2]) w = pithlaw09_rows_given.F x0 x1 x2 w Q := by kernel_rfl
theorem pithlaw09_rows_given.calls [Pan] {x0 : Value} {x1 : Value} {x2 : Value} {w : World} {Q : Value → World → Prop} (h : pithlaw09_rows_given.F x0 x1 x2 w Q) : Calls Try.prog 72 #[x0, x1, x2] w (retP Q) :=
  calls_of_cw (H := pithlaw09_rows_given.H) (c := pithlaw09_rows_given.c) (args := [x0, x1, x2]) mixed Try.func72 (by kernel_rfl) (by kernel_rfl) (Nat.le_of_ble_eq_true (by kernel_rfl)) ((pithlaw09_rows_given.eq x0 x1 x2 w Q).mpr h)

/-! pithlaw09_rows_got: (*pith/pithlaw09.rows).got; temporaries: 0:w 1:d 2:o 3:w 4:d 5:o 7:s 8:v 9:e 10:v 11:e 12:v 13:e 14:v 15:e -/
def pithlaw09_rows_got.H : Hints := { cut := fun  | _ => none, loop := fun  | _ => ([], 0), order := fun | 1 => [(0, 0), (1, 1), (2, 3), (3, 7), (4, 15), (5, 31), (6, 63), (7, 127), (8, 255), (9, 511)] | 13 => [(0, 0), (1, 1), (2, 3), (3, 7), (4, 15), (5, 31), (6, 63), (7, 127), (8, 255), (9, 511), (10, 1023), (11, 2047), (12, 4095), (13, 8191), (14, 16383), (15, 32767), (16, 65535), (17, 131071)] | _ => [] }
def pithlaw09_rows_got.F [Pan] (x0 : Value) (x1 : Value) (x2 : Value) (w : World) (Q : Value → World → Prop) : Prop :=
 pN Try.prog (oBox 116 x2) w fun x5 w1 =>
 pDr w1 fun w2 =>
 pA Try.prog (oNil x0) fun x17 =>
 pA Try.prog (oFld 130 x17 0) fun x18 =>
 pL Try.prog (oLoad 127 x18) w2 fun x19 =>
 pL Try.prog (oLoad 116 x5) w2 fun x21 =>
 pN Try.prog (oCall 98 [x0, x21]) w2 fun x22 w3 =>
 ((Sem.run Try.prog (oLoad 127 x18) w3 = .ok (.value x19) w3) ∧ True) ∧ (pA Try.prog (oIdx 127 x19 x22) fun x23 =>
 pL Try.prog (oLoad 34 x23) w3 fun x24 =>
 pN Try.prog (oFld 116 x5 0) w3 fun x25 w4 =>
 pN Try.prog (oLoad 3 x25) w4 fun x26 w5 =>
 pN Try.prog (oBin .eql 3 (.tmp 26) (.const (.int .i64 0)) x26 (.int .i64 0)) w5 fun x28 w6 =>
 pIf x28
 (pN Try.prog (oFld 116 x5 2) w6 fun x32 w7 =>
 pN Try.prog (oLoad 3 x32) w7 fun x33 w8 =>
 pN Try.prog (oFld 116 x5 3) w8 fun x34 w9 =>
 pN Try.prog (oLoad 3 x34) w9 fun x35 w10 =>
 pN Try.prog (oCall 101 [x1, x24, x33, x35]) w10 fun x36 w11 =>
 pN Try.prog (oExt x36 0) w11 fun x37 w12 =>
 pN Try.prog (oExt x36 1) w12 fun x38 w13 =>
 pN Try.prog (oFld 116 x5 4) w13 fun x40 w14 =>
 pN Try.prog (oLoad 3 x40) w14 fun x41 w15 =>
 pN Try.prog (oBin .eql 3 (.tmp 39) (.tmp 41) x37 x41) w15 fun x42 w16 =>
 pGd (gB x42 true) (pN Try.prog (oMv x38) w16) w16 fun x44 w17 =>
 pGd (gB x42 true) (pN Try.prog (oBin .eql 27 (.tmp 44) (.const (.int .i64 0)) x44 (.int .i64 0)) w17) w17 fun x45 w18 =>
 pN Try.prog (oPick x42 x45 (.bool false)) w18 fun x46 w19 =>
 Q x46 w19)
 (pN Try.prog (oBin .eql 3 (.tmp 26) (.const (.int .i64 1)) x26 (.int .i64 1)) w6 fun x48 w20 =>
 pIf x48
 (pN Try.prog (oFld 116 x5 2) w20 fun x52 w21 =>
 pN Try.prog (oLoad 3 x52) w21 fun x53 w22 =>
 pN Try.prog (oFld 116 x5 3) w22 fun x54 w23 =>
 pN Try.prog (oLoad 3 x54) w23 fun x55 w24 =>
 pN Try.prog (oCall 103 [x1, x24, x53, x55]) w24 fun x56 w25 =>
 pN Try.prog (oExt x56 0) w25 fun x57 w26 =>
 pN Try.prog (oExt x56 1) w26 fun x58 w27 =>
 pN Try.prog (oFld 116 x5 4) w27 fun x60 w28 =>
 pN Try.prog (oLoad 3 x60) w28 fun x61 w29 =>
 pN Try.prog (oBin .eql 3 (.tmp 59) (.tmp 61) x57 x61) w29 fun x62 w30 =>
 pGd (gB x62 true) (pN Try.prog (oMv x58) w30) w30 fun x64 w31 =>
 pGd (gB x62 true) (pN Try.prog (oBin .eql 27 (.tmp 64) (.const (.int .i64 0)) x64 (.int .i64 0)) w31) w31 fun x65 w32 =>
 pN Try.prog (oPick x62 x65 (.bool false)) w32 fun x66 w33 =>
 Q x66 w33)
 (pN Try.prog (oBin .eql 3 (.tmp 26) (.const (.int .i64 3)) x26 (.int .i64 3)) w20 fun x68 w34 =>
 pIf x68
 (pN Try.prog (oFld 116 x5 2) w34 fun x72 w35 =>
 pN Try.prog (oLoad 3 x72) w35 fun x73 w36 =>
 pN Try.prog (oCall 49 [x1, x24, x73]) w36 fun x74 w37 =>
 pN Try.prog (oExt x74 0) w37 fun x75 w38 =>
 pN Try.prog (oExt x74 1) w38 fun x76 w39 =>
 pN Try.prog (oFld 116 x5 4) w39 fun x78 w40 =>
 pN Try.prog (oLoad 3 x78) w40 fun x79 w41 =>
 pN Try.prog (oCall 104 [x79]) w41 fun x80 w42 =>
 pN Try.prog (oBin .eql 3 (.tmp 77) (.tmp 80) x75 x80) w42 fun x81 w43 =>
 pGd (gB x81 true) (pN Try.prog (oMv x76) w43) w43 fun x83 w44 =>
 pGd (gB x81 true) (pN Try.prog (oBin .eql 27 (.tmp 83) (.const (.int .i64 0)) x83 (.int .i64 0)) w44) w44 fun x84 w45 =>
 pN Try.prog (oPick x81 x84 (.bool false)) w45 fun x85 w46 =>
 Q x85 w46)
 (pN Try.prog (oFld 116 x5 3) w34 fun x88 w47 =>
 pN Try.prog (oLoad 3 x88) w47 fun x89 w48 =>
 pN Try.prog (oCall 47 [x1, x89]) w48 fun x90 w49 =>
 pN Try.prog (oExt x90 0) w49 fun x91 w50 =>
 pN Try.prog (oExt x90 1) w50 fun x92 w51 =>
 pDr w51 fun w52 =>
 pA Try.prog (oBin .eql 27 (.tmp 93) (.const (.int .i64 0)) x92 (.int .i64 0)) fun x94 =>
 gA (gB x94 true) (pA Try.prog (oMv x91)) fun x96 =>
 gA (gB x94 true) (pA Try.prog (oFld 116 x5 4)) fun x97 =>
 gA (gB x94 true) (pL Try.prog (oLoad 3 x97) w52) fun x98 =>
 gA (gB x94 true) (pL Try.prog (oConv 3 26 x98) w52) fun x99 =>
 gA (gB x94 true) (pA Try.prog (oFld 116 x5 3)) fun x100 =>
 gA (gB x94 true) (pL Try.prog (oLoad 3 x100) w52) fun x101 =>
 gA (gB x94 true) (pA Try.prog (oBin .sub 3 (.const (.int .i64 32)) (.tmp 101) (.int .i64 32) x101)) fun x102 =>
 gA (gB x94 true) (pA Try.prog (oBin .shl 26 (.tmp 99) (.tmp 102) x99 x102)) fun x103 =>
 gA (gB x94 true) (pA Try.prog (oFld 116 x5 3)) fun x104 =>
 gA (gB x94 true) (pL Try.prog (oLoad 3 x104) w52) fun x105 =>
 gA (gB x94 true) (pA Try.prog (oBin .sub 3 (.const (.int .i64 32)) (.tmp 105) (.int .i64 32) x105)) fun x106 =>
 gA (gB x94 true) (pA Try.prog (oBin .shr 26 (.tmp 103) (.tmp 106) x103 x106)) fun x107 =>
 gA (gB x94 true) (pA Try.prog (oBin .eql 26 (.tmp 96) (.tmp 107) x96 x107)) fun x108 =>
 pA Try.prog (oPick x94 x108 (.bool false)) fun x109 =>
 Q x109 w52))))
noncomputable def pithlaw09_rows_got.c : Code := match Try.f73.body with | some c => c | none => .skip
theorem pithlaw09_rows_got.eq [Pan] (x0 : Value) (x1 : Value) (x2 : Value) (w : World) (Q : Value → World → Prop) : cw Try.prog pithlaw09_rows_got.H pithlaw09_rows_got.c (endQ Try.prog Try.f73.results.toList Q) (argsE [x0, x1, x2]) w = pithlaw09_rows_got.F x0 x1 x2 w Q := by kernel_rfl
theorem pithlaw09_rows_got.calls [Pan] {x0 : Value} {x1 : Value} {x2 : Value} {w : World} {Q : Value → World → Prop} (h : pithlaw09_rows_got.F x0 x1 x2 w Q) : Calls Try.prog 73 #[x0, x1, x2] w (retP Q) :=
  calls_of_cw (H := pithlaw09_rows_got.H) (c := pithlaw09_rows_got.c) (args := [x0, x1, x2]) mixed Try.func73 (by kernel_rfl) (by kernel_rfl) (Nat.le_of_ble_eq_true (by kernel_rfl)) ((pithlaw09_rows_got.eq x0 x1 x2 w Q).mpr h)

/-! pithlaw09_rows_of: (*pith/pithlaw09.rows).of; temporaries: 0:w 1:o 2:w 3:o -/
def pithlaw09_rows_of.H : Hints := { cut := fun  | _ => none, loop := fun  | _ => ([], 0), order := fun | 1 => [(0, 0), (1, 1), (2, 3), (3, 7), (4, 15), (5, 31), (6, 63), (7, 127), (8, 255), (9, 511), (10, 1023), (11, 2047), (12, 4095)] | _ => [] }
def pithlaw09_rows_of.F [Pan] (x0 : Value) (x1 : Value) (w : World) (Q : Value → World → Prop) : Prop :=
 pN Try.prog (oBox 116 x1) w fun x3 w1 =>
 pDr w1 fun w2 =>
 pA Try.prog (oFld 116 x3 1) fun x5 =>
 pL Try.prog (oLoad 3 x5) w2 fun x6 =>
 pA Try.prog (oBin .lss 3 (.tmp 6) (.const (.int .i64 0)) x6 (.int .i64 0)) fun x7 =>
 gA (gB x7 false) (pA Try.prog (oFld 116 x3 1)) fun x9 =>
 gA (gB x7 false) (pL Try.prog (oLoad 3 x9) w2) fun x10 =>
 gA (gB x7 false) (pA Try.prog (oMv x0)) fun x11 =>
 gA (gB x7 false) (pA Try.prog (oNil x11)) fun x12 =>
 gA (gB x7 false) (pA Try.prog (oFld 130 x12 0)) fun x13 =>
 gA (gB x7 false) (pL Try.prog (oLoad 127 x13) w2) fun x14 =>
 gA (gB x7 false) (pA Try.prog (oBi .len #[127] 3 [false] [x14])) fun x15 =>
 gA (gB x7 false) (pA Try.prog (oBin .geq 3 (.tmp 10) (.tmp 15) x10 x15)) fun x16 =>
 pA Try.prog (oPick x7 (.bool true) x16) fun x17 =>
 pIf x17
 (Q (.int .i64 0) w2)
 (pN Try.prog (oFld 116 x3 1) w2 fun x18 w3 =>
 pN Try.prog (oLoad 3 x18) w3 fun x19 w4 =>
 Q x19 w4)
noncomputable def pithlaw09_rows_of.c : Code := match Try.f98.body with | some c => c | none => .skip
theorem pithlaw09_rows_of.eq [Pan] (x0 : Value) (x1 : Value) (w : World) (Q : Value → World → Prop) : cw Try.prog pithlaw09_rows_of.H pithlaw09_rows_of.c (endQ Try.prog Try.f98.results.toList Q) (argsE [x0, x1]) w = pithlaw09_rows_of.F x0 x1 w Q := by kernel_rfl
theorem pithlaw09_rows_of.calls [Pan] {x0 : Value} {x1 : Value} {w : World} {Q : Value → World → Prop} (h : pithlaw09_rows_of.F x0 x1 w Q) : Calls Try.prog 98 #[x0, x1] w (retP Q) :=
  calls_of_cw (H := pithlaw09_rows_of.H) (c := pithlaw09_rows_of.c) (args := [x0, x1]) mixed Try.func98 (by kernel_rfl) (by kernel_rfl) (Nat.le_of_ble_eq_true (by kernel_rfl)) ((pithlaw09_rows_of.eq x0 x1 w Q).mpr h)

/-! pithlaw09_bit: pith/pithlaw09.bit; temporaries: 0:v 1:v -/
def pithlaw09_bit.H : Hints := { cut := fun  | _ => none, loop := fun  | _ => ([], 0), order := fun  | _ => [] }
def pithlaw09_bit.F [Pan] (x0 : Value) (w : World) (Q : Value → World → Prop) : Prop :=
 pN Try.prog (oBin .eql 3 (.tmp 3) (.const (.int .i64 0)) x0 (.int .i64 0)) w fun x4 w1 =>
 pIf x4
 (Q (.int .i64 0) w1)
 (Q (.int .i64 1) w1)
noncomputable def pithlaw09_bit.c : Code := match Try.f104.body with | some c => c | none => .skip
theorem pithlaw09_bit.eq [Pan] (x0 : Value) (w : World) (Q : Value → World → Prop) : cw Try.prog pithlaw09_bit.H pithlaw09_bit.c (endQ Try.prog Try.f104.results.toList Q) (argsE [x0]) w = pithlaw09_bit.F x0 w Q := by kernel_rfl
theorem pithlaw09_bit.calls [Pan] {x0 : Value} {w : World} {Q : Value → World → Prop} (h : pithlaw09_bit.F x0 w Q) : Calls Try.prog 104 #[x0] w (retP Q) :=
  calls_of_cw (H := pithlaw09_bit.H) (c := pithlaw09_bit.c) (args := [x0]) mixed Try.func104 (by kernel_rfl) (by kernel_rfl) (Nat.le_of_ble_eq_true (by kernel_rfl)) ((pithlaw09_bit.eq x0 w Q).mpr h)

end Go.Proofs.Ytoejaggkedlfmaa
