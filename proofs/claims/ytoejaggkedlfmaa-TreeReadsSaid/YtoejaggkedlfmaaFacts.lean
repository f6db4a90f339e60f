/-
  Closed facts of the translation, under names. Printed by a program of mine (facts.py).
-/
import Derived.Test.YtoejaggkedlfmaaRows
import Derived.Test.YtoejaggkedlfmaaKey
import Derived.Test.YtoejaggkedlfmaaDefer
namespace Go.Proofs.Ytoejaggkedlfmaa
open Go
set_option linter.unusedSimpArgs false
set_option linter.unnecessarySimpa false
set_option linter.unusedSectionVars false
set_option linter.unusedVariables false

theorem mixed : Try.prog.follows .mixedOrders = true := by kernel_rfl
section
variable [Pan] {w : World} {K : Value → World → Prop} {J : Value → Prop}

theorem un_int : Try.prog.underlying 3 = some (.int .i64) := Try.underlying3
theorem na_int (w : World) : (isAgg 3).run Try.prog w = .ok false w := Try.isAgg3 w
theorem sz_int (w : World) : (sizeOf 3).run Try.prog w = .ok 1 w := Try.sizeOf3 w
theorem zv_int (w : World) : (zeroValue 3).run Try.prog w = .ok (.int .i64 0) w := Try.zeroValue3 w
theorem un_bool : Try.prog.underlying 4 = some (.bool) := Try.underlying4
theorem na_bool (w : World) : (isAgg 4).run Try.prog w = .ok false w := Try.isAgg4 w
theorem sz_bool (w : World) : (sizeOf 4).run Try.prog w = .ok 1 w := Try.sizeOf4 w
theorem zv_bool (w : World) : (zeroValue 4).run Try.prog w = .ok (.bool false) w := Try.zeroValue4 w
theorem un_uint8 : Try.prog.underlying 5 = some (.int .u8) := Try.underlying5
theorem na_uint8 (w : World) : (isAgg 5).run Try.prog w = .ok false w := Try.isAgg5 w
theorem sz_uint8 (w : World) : (sizeOf 5).run Try.prog w = .ok 1 w := Try.sizeOf5 w
theorem zv_uint8 (w : World) : (zeroValue 5).run Try.prog w = .ok (.int .u8 0) w := Try.zeroValue5 w
theorem un_string : Try.prog.underlying 9 = some (.string) := Try.underlying9
theorem na_string (w : World) : (isAgg 9).run Try.prog w = .ok false w := Try.isAgg9 w
theorem sz_string (w : World) : (sizeOf 9).run Try.prog w = .ok 1 w := Try.sizeOf9 w
theorem zv_string (w : World) : (zeroValue 9).run Try.prog w = .ok (.string ⟨#[]⟩) w := Try.zeroValue9 w
theorem un_sl_uint32 : Try.prog.underlying 22 = some (.slice 26) := Try.underlying22
theorem na_sl_uint32 (w : World) : (isAgg 22).run Try.prog w = .ok false w := Try.isAgg22 w
theorem sz_sl_uint32 (w : World) : (sizeOf 22).run Try.prog w = .ok 1 w := Try.sizeOf22 w
theorem zv_sl_uint32 (w : World) : (zeroValue 22).run Try.prog w = .ok (.slice none 0 0) w := Try.zeroValue22 w
theorem un_sl_int : Try.prog.underlying 23 = some (.slice 3) := Try.underlying23
theorem na_sl_int (w : World) : (isAgg 23).run Try.prog w = .ok false w := Try.isAgg23 w
theorem sz_sl_int (w : World) : (sizeOf 23).run Try.prog w = .ok 1 w := Try.sizeOf23 w
theorem zv_sl_int (w : World) : (zeroValue 23).run Try.prog w = .ok (.slice none 0 0) w := Try.zeroValue23 w
theorem un_p_rcenc_Encoder : Try.prog.underlying 24 = some (.pointer 133) := Try.underlying24
theorem na_p_rcenc_Encoder (w : World) : (isAgg 24).run Try.prog w = .ok false w := Try.isAgg24 w
theorem sz_p_rcenc_Encoder (w : World) : (sizeOf 24).run Try.prog w = .ok 1 w := Try.sizeOf24 w
theorem zv_p_rcenc_Encoder (w : World) : (zeroValue 24).run Try.prog w = .ok (.pointer none) w := Try.zeroValue24 w
theorem un_uint32 : Try.prog.underlying 26 = some (.int .u32) := Try.underlying26
theorem na_uint32 (w : World) : (isAgg 26).run Try.prog w = .ok false w := Try.isAgg26 w
theorem sz_uint32 (w : World) : (sizeOf 26).run Try.prog w = .ok 1 w := Try.sizeOf26 w
theorem zv_uint32 (w : World) : (zeroValue 26).run Try.prog w = .ok (.int .u32 0) w := Try.zeroValue26 w
theorem un_api_Errno : Try.prog.underlying 27 = some (.int .i64) := Try.underlying27
theorem na_api_Errno (w : World) : (isAgg 27).run Try.prog w = .ok false w := Try.isAgg27 w
theorem sz_api_Errno (w : World) : (sizeOf 27).run Try.prog w = .ok 1 w := Try.sizeOf27 w
theorem zv_api_Errno (w : World) : (zeroValue 27).run Try.prog w = .ok (.int .i64 0) w := Try.zeroValue27 w
theorem un_sl_uint8 : Try.prog.underlying 29 = some (.slice 5) := Try.underlying29
theorem na_sl_uint8 (w : World) : (isAgg 29).run Try.prog w = .ok false w := Try.isAgg29 w
theorem sz_sl_uint8 (w : World) : (sizeOf 29).run Try.prog w = .ok 1 w := Try.sizeOf29 w
theorem zv_sl_uint8 (w : World) : (zeroValue 29).run Try.prog w = .ok (.slice none 0 0) w := Try.zeroValue29 w
theorem un_sl_pithlaw07_Bit : Try.prog.underlying 33 = some (.slice 38) := Try.underlying33
theorem na_sl_pithlaw07_Bit (w : World) : (isAgg 33).run Try.prog w = .ok false w := Try.isAgg33 w
theorem sz_sl_pithlaw07_Bit (w : World) : (sizeOf 33).run Try.prog w = .ok 1 w := Try.sizeOf33 w
theorem zv_sl_pithlaw07_Bit (w : World) : (zeroValue 33).run Try.prog w = .ok (.slice none 0 0) w := Try.zeroValue33 w
theorem un_p_prob_Set : Try.prog.underlying 34 = some (.pointer 137) := Try.underlying34
theorem na_p_prob_Set (w : World) : (isAgg 34).run Try.prog w = .ok false w := Try.isAgg34 w
theorem sz_p_prob_Set (w : World) : (sizeOf 34).run Try.prog w = .ok 1 w := Try.sizeOf34 w
theorem zv_p_prob_Set (w : World) : (zeroValue 34).run Try.prog w = .ok (.pointer none) w := Try.zeroValue34 w
theorem ag_pithlaw07_Bit (w : World) : (isAgg 38).run Try.prog w = .ok true w := Try.isAgg38 w
theorem sz_pithlaw07_Bit (w : World) : (sizeOf 38).run Try.prog w = .ok 2 w := Try.sizeOf38 w
theorem zv_pithlaw07_Bit (w : World) : (zeroValue 38).run Try.prog w = .ok (.agg #[(.int .i64 0), (.bool false)]) w := Try.zeroValue38 w
theorem un_arr4_int : Try.prog.underlying 43 = some (.array 4 3) := Try.underlying43
theorem ag_arr4_int (w : World) : (isAgg 43).run Try.prog w = .ok true w := Try.isAgg43 w
theorem sz_arr4_int (w : World) : (sizeOf 43).run Try.prog w = .ok 4 w := Try.sizeOf43 w
theorem zv_arr4_int (w : World) : (zeroValue 43).run Try.prog w = .ok (.agg #[(.int .i64 0), (.int .i64 0), (.int .i64 0), (.int .i64 0)]) w := Try.zeroValue43 w
theorem un_sl_pithlaw07_Op : Try.prog.underlying 49 = some (.slice 64) := Try.underlying49
theorem na_sl_pithlaw07_Op (w : World) : (isAgg 49).run Try.prog w = .ok false w := Try.isAgg49 w
theorem sz_sl_pithlaw07_Op (w : World) : (sizeOf 49).run Try.prog w = .ok 1 w := Try.sizeOf49 w
theorem zv_sl_pithlaw07_Op (w : World) : (zeroValue 49).run Try.prog w = .ok (.slice none 0 0) w := Try.zeroValue49 w
theorem un_p_pithref06_Set : Try.prog.underlying 51 = some (.pointer 145) := Try.underlying51
theorem na_p_pithref06_Set (w : World) : (isAgg 51).run Try.prog w = .ok false w := Try.isAgg51 w
theorem sz_p_pithref06_Set (w : World) : (sizeOf 51).run Try.prog w = .ok 1 w := Try.sizeOf51 w
theorem zv_p_pithref06_Set (w : World) : (zeroValue 51).run Try.prog w = .ok (.pointer none) w := Try.zeroValue51 w
theorem ag_pithlaw07_Sets (w : World) : (isAgg 54).run Try.prog w = .ok true w := Try.isAgg54 w
theorem sz_pithlaw07_Sets (w : World) : (sizeOf 54).run Try.prog w = .ok 4 w := Try.sizeOf54 w
theorem zv_pithlaw07_Sets (w : World) : (zeroValue 54).run Try.prog w = .ok (.agg #[(.pointer none), (.pointer none), (.pointer none), (.pointer none)]) w := Try.zeroValue54 w
theorem un_p_pithref07_Encoder : Try.prog.underlying 57 = some (.pointer 139) := Try.underlying57
theorem na_p_pithref07_Encoder (w : World) : (isAgg 57).run Try.prog w = .ok false w := Try.isAgg57 w
theorem sz_p_pithref07_Encoder (w : World) : (sizeOf 57).run Try.prog w = .ok 1 w := Try.sizeOf57 w
theorem zv_p_pithref07_Encoder (w : World) : (zeroValue 57).run Try.prog w = .ok (.pointer none) w := Try.zeroValue57 w
theorem ag_pithlaw07_Pair (w : World) : (isAgg 60).run Try.prog w = .ok true w := Try.isAgg60 w
theorem sz_pithlaw07_Pair (w : World) : (sizeOf 60).run Try.prog w = .ok 2 w := Try.sizeOf60 w
theorem zv_pithlaw07_Pair (w : World) : (zeroValue 60).run Try.prog w = .ok (.agg #[(.pointer none), (.pointer none)]) w := Try.zeroValue60 w
theorem un_sl_pithlaw07_Pair : Try.prog.underlying 61 = some (.slice 60) := Try.underlying61
theorem na_sl_pithlaw07_Pair (w : World) : (isAgg 61).run Try.prog w = .ok false w := Try.isAgg61 w
theorem sz_sl_pithlaw07_Pair (w : World) : (sizeOf 61).run Try.prog w = .ok 1 w := Try.sizeOf61 w
theorem zv_sl_pithlaw07_Pair (w : World) : (zeroValue 61).run Try.prog w = .ok (.slice none 0 0) w := Try.zeroValue61 w
theorem un_sl_pithlaw07_Held : Try.prog.underlying 62 = some (.slice 68) := Try.underlying62
theorem na_sl_pithlaw07_Held (w : World) : (isAgg 62).run Try.prog w = .ok false w := Try.isAgg62 w
theorem sz_sl_pithlaw07_Held (w : World) : (sizeOf 62).run Try.prog w = .ok 1 w := Try.sizeOf62 w
theorem zv_sl_pithlaw07_Held (w : World) : (zeroValue 62).run Try.prog w = .ok (.slice none 0 0) w := Try.zeroValue62 w
theorem ag_pithlaw07_Op (w : World) : (isAgg 64).run Try.prog w = .ok true w := Try.isAgg64 w
theorem sz_pithlaw07_Op (w : World) : (sizeOf 64).run Try.prog w = .ok 7 w := Try.sizeOf64 w
theorem zv_pithlaw07_Op (w : World) : (zeroValue 64).run Try.prog w = .ok (.agg #[(.int .i64 0), (.int .i64 0), (.int .i64 0), (.int .i64 0), (.int .i64 0), (.int .u32 0), (.int .i64 0)]) w := Try.zeroValue64 w
theorem ag_pithlaw07_Held (w : World) : (isAgg 68).run Try.prog w = .ok true w := Try.isAgg68 w
theorem sz_pithlaw07_Held (w : World) : (sizeOf 68).run Try.prog w = .ok 5 w := Try.sizeOf68 w
theorem zv_pithlaw07_Held (w : World) : (zeroValue 68).run Try.prog w = .ok (.agg #[(.slice none 0 0), (.int .i64 0), (.int .u8 0), (.string ⟨#[]⟩), (.bool false)]) w := Try.zeroValue68 w
theorem un_sl_pithlaw08_Ask : Try.prog.underlying 74 = some (.slice 87) := Try.underlying74
theorem na_sl_pithlaw08_Ask (w : World) : (isAgg 74).run Try.prog w = .ok false w := Try.isAgg74 w
theorem sz_sl_pithlaw08_Ask (w : World) : (sizeOf 74).run Try.prog w = .ok 1 w := Try.sizeOf74 w
theorem zv_sl_pithlaw08_Ask (w : World) : (zeroValue 74).run Try.prog w = .ok (.slice none 0 0) w := Try.zeroValue74 w
theorem un_p_rcdec_Decoder : Try.prog.underlying 75 = some (.pointer 149) := Try.underlying75
theorem na_p_rcdec_Decoder (w : World) : (isAgg 75).run Try.prog w = .ok false w := Try.isAgg75 w
theorem sz_p_rcdec_Decoder (w : World) : (sizeOf 75).run Try.prog w = .ok 1 w := Try.sizeOf75 w
theorem zv_p_rcdec_Decoder (w : World) : (zeroValue 75).run Try.prog w = .ok (.pointer none) w := Try.zeroValue75 w
theorem ag_pithlaw08_Ask (w : World) : (isAgg 87).run Try.prog w = .ok true w := Try.isAgg87 w
theorem sz_pithlaw08_Ask (w : World) : (sizeOf 87).run Try.prog w = .ok 4 w := Try.sizeOf87 w
theorem zv_pithlaw08_Ask (w : World) : (zeroValue 87).run Try.prog w = .ok (.agg #[(.bool false), (.int .i64 0), (.int .i64 0), (.int .u32 0)]) w := Try.zeroValue87 w
theorem ag_pithlaw08_Plan (w : World) : (isAgg 98).run Try.prog w = .ok true w := Try.isAgg98 w
theorem sz_pithlaw08_Plan (w : World) : (sizeOf 98).run Try.prog w = .ok 2 w := Try.sizeOf98 w
theorem zv_pithlaw08_Plan (w : World) : (zeroValue 98).run Try.prog w = .ok (.agg #[(.int .i64 0), (.slice none 0 0)]) w := Try.zeroValue98 w
theorem un_sl_bool : Try.prog.underlying 102 = some (.slice 4) := Try.underlying102
theorem na_sl_bool (w : World) : (isAgg 102).run Try.prog w = .ok false w := Try.isAgg102 w
theorem sz_sl_bool (w : World) : (sizeOf 102).run Try.prog w = .ok 1 w := Try.sizeOf102 w
theorem zv_sl_bool (w : World) : (zeroValue 102).run Try.prog w = .ok (.slice none 0 0) w := Try.zeroValue102 w
theorem un_sl_pithlaw09_Op : Try.prog.underlying 110 = some (.slice 116) := Try.underlying110
theorem na_sl_pithlaw09_Op (w : World) : (isAgg 110).run Try.prog w = .ok false w := Try.isAgg110 w
theorem sz_sl_pithlaw09_Op (w : World) : (sizeOf 110).run Try.prog w = .ok 1 w := Try.sizeOf110 w
theorem zv_sl_pithlaw09_Op (w : World) : (zeroValue 110).run Try.prog w = .ok (.slice none 0 0) w := Try.zeroValue110 w
theorem ag_pithlaw09_Op (w : World) : (isAgg 116).run Try.prog w = .ok true w := Try.isAgg116 w
theorem sz_pithlaw09_Op (w : World) : (sizeOf 116).run Try.prog w = .ok 5 w := Try.sizeOf116 w
theorem zv_pithlaw09_Op (w : World) : (zeroValue 116).run Try.prog w = .ok (.agg #[(.int .i64 0), (.int .i64 0), (.int .i64 0), (.int .i64 0), (.int .i64 0)]) w := Try.zeroValue116 w
theorem un_sl_sl_uint8 : Try.prog.underlying 120 = some (.slice 29) := Try.underlying120
theorem na_sl_sl_uint8 (w : World) : (isAgg 120).run Try.prog w = .ok false w := Try.isAgg120 w
theorem sz_sl_sl_uint8 (w : World) : (sizeOf 120).run Try.prog w = .ok 1 w := Try.sizeOf120 w
theorem zv_sl_sl_uint8 (w : World) : (zeroValue 120).run Try.prog w = .ok (.slice none 0 0) w := Try.zeroValue120 w
theorem un_sl_p_prob_Set : Try.prog.underlying 127 = some (.slice 34) := Try.underlying127
theorem na_sl_p_prob_Set (w : World) : (isAgg 127).run Try.prog w = .ok false w := Try.isAgg127 w
theorem sz_sl_p_prob_Set (w : World) : (sizeOf 127).run Try.prog w = .ok 1 w := Try.sizeOf127 w
theorem zv_sl_p_prob_Set (w : World) : (zeroValue 127).run Try.prog w = .ok (.slice none 0 0) w := Try.zeroValue127 w
theorem un_sl_p_pithref06_Set : Try.prog.underlying 128 = some (.slice 51) := Try.underlying128
theorem na_sl_p_pithref06_Set (w : World) : (isAgg 128).run Try.prog w = .ok false w := Try.isAgg128 w
theorem sz_sl_p_pithref06_Set (w : World) : (sizeOf 128).run Try.prog w = .ok 1 w := Try.sizeOf128 w
theorem zv_sl_p_pithref06_Set (w : World) : (zeroValue 128).run Try.prog w = .ok (.slice none 0 0) w := Try.zeroValue128 w
theorem ag_pithlaw09_rows (w : World) : (isAgg 130).run Try.prog w = .ok true w := Try.isAgg130 w
theorem sz_pithlaw09_rows (w : World) : (sizeOf 130).run Try.prog w = .ok 2 w := Try.sizeOf130 w
theorem zv_pithlaw09_rows (w : World) : (zeroValue 130).run Try.prog w = .ok (.agg #[(.slice none 0 0), (.slice none 0 0)]) w := Try.zeroValue130 w
theorem un_uint64 : Try.prog.underlying 131 = some (.int .u64) := Try.underlying131
theorem na_uint64 (w : World) : (isAgg 131).run Try.prog w = .ok false w := Try.isAgg131 w
theorem sz_uint64 (w : World) : (sizeOf 131).run Try.prog w = .ok 1 w := Try.sizeOf131 w
theorem zv_uint64 (w : World) : (zeroValue 131).run Try.prog w = .ok (.int .u64 0) w := Try.zeroValue131 w
theorem ag_rcenc_Encoder (w : World) : (isAgg 133).run Try.prog w = .ok true w := Try.isAgg133 w
theorem sz_rcenc_Encoder (w : World) : (sizeOf 133).run Try.prog w = .ok 5 w := Try.sizeOf133 w
theorem zv_rcenc_Encoder (w : World) : (zeroValue 133).run Try.prog w = .ok (.agg #[(.int .u64 0), (.int .u32 0), (.int .u8 0), (.int .i64 0), (.slice none 0 0)]) w := Try.zeroValue133 w
theorem ag_prob_Set (w : World) : (isAgg 137).run Try.prog w = .ok true w := Try.isAgg137 w
theorem sz_prob_Set (w : World) : (sizeOf 137).run Try.prog w = .ok 1 w := Try.sizeOf137 w
theorem zv_prob_Set (w : World) : (zeroValue 137).run Try.prog w = .ok (.agg #[(.slice none 0 0)]) w := Try.zeroValue137 w
theorem ag_pithref07_Encoder (w : World) : (isAgg 139).run Try.prog w = .ok true w := Try.isAgg139 w
theorem sz_pithref07_Encoder (w : World) : (sizeOf 139).run Try.prog w = .ok 3 w := Try.sizeOf139 w
theorem zv_pithref07_Encoder (w : World) : (zeroValue 139).run Try.prog w = .ok (.agg #[(.slice none 0 0), (.int .u32 0), (.int .i64 0)]) w := Try.zeroValue139 w
theorem ag_pithref06_Set (w : World) : (isAgg 145).run Try.prog w = .ok true w := Try.isAgg145 w
theorem sz_pithref06_Set (w : World) : (sizeOf 145).run Try.prog w = .ok 2 w := Try.sizeOf145 w
theorem zv_pithref06_Set (w : World) : (zeroValue 145).run Try.prog w = .ok (.agg #[(.int .i64 0), (.slice none 0 0)]) w := Try.zeroValue145 w
theorem ag_rcdec_place (w : World) : (isAgg 147).run Try.prog w = .ok true w := Try.isAgg147 w
theorem sz_rcdec_place (w : World) : (sizeOf 147).run Try.prog w = .ok 3 w := Try.sizeOf147 w
theorem zv_rcdec_place (w : World) : (zeroValue 147).run Try.prog w = .ok (.agg #[(.int .i64 0), (.int .u32 0), (.int .u32 0)]) w := Try.zeroValue147 w
theorem ag_rcdec_Decoder (w : World) : (isAgg 149).run Try.prog w = .ok true w := Try.isAgg149 w
theorem sz_rcdec_Decoder (w : World) : (sizeOf 149).run Try.prog w = .ok 4 w := Try.sizeOf149 w
theorem zv_rcdec_Decoder (w : World) : (zeroValue 149).run Try.prog w = .ok (.agg #[(.slice none 0 0), (.int .i64 0), (.int .u32 0), (.int .u32 0)]) w := Try.zeroValue149 w
theorem ag_pithref08_Decoder (w : World) : (isAgg 151).run Try.prog w = .ok true w := Try.isAgg151 w
theorem sz_pithref08_Decoder (w : World) : (sizeOf 151).run Try.prog w = .ok 4 w := Try.sizeOf151 w
theorem zv_pithref08_Decoder (w : World) : (zeroValue 151).run Try.prog w = .ok (.agg #[(.slice none 0 0), (.int .i64 0), (.int .i64 0), (.int .i64 0)]) w := Try.zeroValue151 w
theorem un_sl_pithref09_Step : Try.prog.underlying 171 = some (.slice 175) := Try.underlying171
theorem na_sl_pithref09_Step (w : World) : (isAgg 171).run Try.prog w = .ok false w := Try.isAgg171 w
theorem sz_sl_pithref09_Step (w : World) : (sizeOf 171).run Try.prog w = .ok 1 w := Try.sizeOf171 w
theorem zv_sl_pithref09_Step (w : World) : (zeroValue 171).run Try.prog w = .ok (.slice none 0 0) w := Try.zeroValue171 w
theorem ag_pithref09_Step (w : World) : (isAgg 175).run Try.prog w = .ok true w := Try.isAgg175 w
theorem sz_pithref09_Step (w : World) : (sizeOf 175).run Try.prog w = .ok 2 w := Try.sizeOf175 w
theorem zv_pithref09_Step (w : World) : (zeroValue 175).run Try.prog w = .ok (.agg #[(.int .i64 0), (.int .i64 0)]) w := Try.zeroValue175 w
theorem st_sl_uint32 : SlT Try.prog 22 26 (.int .u32 0) 1 4 := ⟨Try.underlying22, info_parts (by kernel_rfl), rfl, by decide⟩
theorem st_sl_int : SlT Try.prog 23 3 (.int .i64 0) 1 8 := ⟨Try.underlying23, info_parts (by kernel_rfl), rfl, by decide⟩
theorem st_sl_uint8 : SlT Try.prog 29 5 (.int .u8 0) 1 1 := ⟨Try.underlying29, info_parts (by kernel_rfl), rfl, by decide⟩
theorem st_sl_pithlaw07_Bit : SlT Try.prog 33 38 (.agg #[(.int .i64 0), (.bool false)]) 2 16 := ⟨Try.underlying33, info_parts (by kernel_rfl), rfl, by decide⟩
theorem st_sl_pithlaw07_Op : SlT Try.prog 49 64 (.agg #[(.int .i64 0), (.int .i64 0), (.int .i64 0), (.int .i64 0), (.int .i64 0), (.int .u32 0), (.int .i64 0)]) 7 56 := ⟨Try.underlying49, info_parts (by kernel_rfl), rfl, by decide⟩
theorem st_sl_pithlaw07_Pair : SlT Try.prog 61 60 (.agg #[(.pointer none), (.pointer none)]) 2 16 := ⟨Try.underlying61, info_parts (by kernel_rfl), rfl, by decide⟩
theorem st_sl_pithlaw07_Held : SlT Try.prog 62 68 (.agg #[(.slice none 0 0), (.int .i64 0), (.int .u8 0), (.string ⟨#[]⟩), (.bool false)]) 5 64 := ⟨Try.underlying62, info_parts (by kernel_rfl), rfl, by decide⟩
theorem st_sl_pithlaw08_Ask : SlT Try.prog 74 87 (.agg #[(.bool false), (.int .i64 0), (.int .i64 0), (.int .u32 0)]) 4 32 := ⟨Try.underlying74, info_parts (by kernel_rfl), rfl, by decide⟩
theorem st_sl_bool : SlT Try.prog 102 4 (.bool false) 1 1 := ⟨Try.underlying102, info_parts (by kernel_rfl), rfl, by decide⟩
theorem st_sl_pithlaw09_Op : SlT Try.prog 110 116 (.agg #[(.int .i64 0), (.int .i64 0), (.int .i64 0), (.int .i64 0), (.int .i64 0)]) 5 40 := ⟨Try.underlying110, info_parts (by kernel_rfl), rfl, by decide⟩
theorem st_sl_sl_uint8 : SlT Try.prog 120 29 (.slice none 0 0) 1 24 := ⟨Try.underlying120, info_parts (by kernel_rfl), rfl, by decide⟩
theorem st_sl_p_prob_Set : SlT Try.prog 127 34 (.pointer none) 1 8 := ⟨Try.underlying127, info_parts (by kernel_rfl), rfl, by decide⟩
theorem st_sl_p_pithref06_Set : SlT Try.prog 128 51 (.pointer none) 1 8 := ⟨Try.underlying128, info_parts (by kernel_rfl), rfl, by decide⟩
theorem st_sl_pithref09_Step : SlT Try.prog 171 175 (.agg #[(.int .i64 0), (.int .i64 0)]) 2 16 := ⟨Try.underlying171, info_parts (by kernel_rfl), rfl, by decide⟩
theorem pN_conv_int_uint8 (k : IntKind) (n : Int) : pN Try.prog (oConv 3 5 (.int k n)) w K = K (.int .u8 (IntKind.wrap .u8 n)) w := pN_conv k n Try.underlying3 Try.underlying5
theorem pA_conv_int_uint8 (k : IntKind) (n : Int) : pA Try.prog (oConv 3 5 (.int k n)) J = J (.int .u8 (IntKind.wrap .u8 n)) := pA_conv k n Try.underlying3 Try.underlying5
theorem pL_conv_int_uint8 (k : IntKind) (n : Int) : pL Try.prog (oConv 3 5 (.int k n)) w J = J (.int .u8 (IntKind.wrap .u8 n)) := pL_conv k n Try.underlying3 Try.underlying5
theorem pN_conv_int_uint32 (k : IntKind) (n : Int) : pN Try.prog (oConv 3 26 (.int k n)) w K = K (.int .u32 (IntKind.wrap .u32 n)) w := pN_conv k n Try.underlying3 Try.underlying26
theorem pA_conv_int_uint32 (k : IntKind) (n : Int) : pA Try.prog (oConv 3 26 (.int k n)) J = J (.int .u32 (IntKind.wrap .u32 n)) := pA_conv k n Try.underlying3 Try.underlying26
theorem pL_conv_int_uint32 (k : IntKind) (n : Int) : pL Try.prog (oConv 3 26 (.int k n)) w J = J (.int .u32 (IntKind.wrap .u32 n)) := pL_conv k n Try.underlying3 Try.underlying26
theorem pN_conv_uint8_int (k : IntKind) (n : Int) : pN Try.prog (oConv 5 3 (.int k n)) w K = K (.int .i64 (IntKind.wrap .i64 n)) w := pN_conv k n Try.underlying5 Try.underlying3
theorem pA_conv_uint8_int (k : IntKind) (n : Int) : pA Try.prog (oConv 5 3 (.int k n)) J = J (.int .i64 (IntKind.wrap .i64 n)) := pA_conv k n Try.underlying5 Try.underlying3
theorem pL_conv_uint8_int (k : IntKind) (n : Int) : pL Try.prog (oConv 5 3 (.int k n)) w J = J (.int .i64 (IntKind.wrap .i64 n)) := pL_conv k n Try.underlying5 Try.underlying3
theorem pN_conv_uint8_uint32 (k : IntKind) (n : Int) : pN Try.prog (oConv 5 26 (.int k n)) w K = K (.int .u32 (IntKind.wrap .u32 n)) w := pN_conv k n Try.underlying5 Try.underlying26
theorem pA_conv_uint8_uint32 (k : IntKind) (n : Int) : pA Try.prog (oConv 5 26 (.int k n)) J = J (.int .u32 (IntKind.wrap .u32 n)) := pA_conv k n Try.underlying5 Try.underlying26
theorem pL_conv_uint8_uint32 (k : IntKind) (n : Int) : pL Try.prog (oConv 5 26 (.int k n)) w J = J (.int .u32 (IntKind.wrap .u32 n)) := pL_conv k n Try.underlying5 Try.underlying26
theorem pN_conv_uint8_uint64 (k : IntKind) (n : Int) : pN Try.prog (oConv 5 131 (.int k n)) w K = K (.int .u64 (IntKind.wrap .u64 n)) w := pN_conv k n Try.underlying5 Try.underlying131
theorem pA_conv_uint8_uint64 (k : IntKind) (n : Int) : pA Try.prog (oConv 5 131 (.int k n)) J = J (.int .u64 (IntKind.wrap .u64 n)) := pA_conv k n Try.underlying5 Try.underlying131
theorem pL_conv_uint8_uint64 (k : IntKind) (n : Int) : pL Try.prog (oConv 5 131 (.int k n)) w J = J (.int .u64 (IntKind.wrap .u64 n)) := pL_conv k n Try.underlying5 Try.underlying131
theorem pN_conv_uint32_int (k : IntKind) (n : Int) : pN Try.prog (oConv 26 3 (.int k n)) w K = K (.int .i64 (IntKind.wrap .i64 n)) w := pN_conv k n Try.underlying26 Try.underlying3
theorem pA_conv_uint32_int (k : IntKind) (n : Int) : pA Try.prog (oConv 26 3 (.int k n)) J = J (.int .i64 (IntKind.wrap .i64 n)) := pA_conv k n Try.underlying26 Try.underlying3
theorem pL_conv_uint32_int (k : IntKind) (n : Int) : pL Try.prog (oConv 26 3 (.int k n)) w J = J (.int .i64 (IntKind.wrap .i64 n)) := pL_conv k n Try.underlying26 Try.underlying3
theorem pN_conv_uint32_uint64 (k : IntKind) (n : Int) : pN Try.prog (oConv 26 131 (.int k n)) w K = K (.int .u64 (IntKind.wrap .u64 n)) w := pN_conv k n Try.underlying26 Try.underlying131
theorem pA_conv_uint32_uint64 (k : IntKind) (n : Int) : pA Try.prog (oConv 26 131 (.int k n)) J = J (.int .u64 (IntKind.wrap .u64 n)) := pA_conv k n Try.underlying26 Try.underlying131
theorem pL_conv_uint32_uint64 (k : IntKind) (n : Int) : pL Try.prog (oConv 26 131 (.int k n)) w J = J (.int .u64 (IntKind.wrap .u64 n)) := pL_conv k n Try.underlying26 Try.underlying131
theorem run_str_sl_uint8 {v : Value} {n : Nat} {l : List UInt8} (hr : Rd w 1 v n (bvs l)) : (oConv 29 9 v).run Try.prog w = .ok (.value (.string ⟨l.toArray⟩)) w := run_str Try.underlying29 Try.underlying5 Try.underlying9 hr.len
theorem pN_str_sl_uint8 {v : Value} {n : Nat} {l : List UInt8} (hr : Rd w 1 v n (bvs l)) : pN Try.prog (oConv 29 9 v) w K = K (.string ⟨l.toArray⟩) w := by rw [pN_def, run_str_sl_uint8 hr, rN_value]
theorem pL_str_sl_uint8 {v : Value} {n : Nat} {l : List UInt8} (hr : Rd w 1 v n (bvs l)) : pL Try.prog (oConv 29 9 v) w J = J (.string ⟨l.toArray⟩) := by rw [pL_def, run_str_sl_uint8 hr, rL_value]
theorem pN_conv_uint64_uint8 (k : IntKind) (n : Int) : pN Try.prog (oConv 131 5 (.int k n)) w K = K (.int .u8 (IntKind.wrap .u8 n)) w := pN_conv k n Try.underlying131 Try.underlying5
theorem pA_conv_uint64_uint8 (k : IntKind) (n : Int) : pA Try.prog (oConv 131 5 (.int k n)) J = J (.int .u8 (IntKind.wrap .u8 n)) := pA_conv k n Try.underlying131 Try.underlying5
theorem pL_conv_uint64_uint8 (k : IntKind) (n : Int) : pL Try.prog (oConv 131 5 (.int k n)) w J = J (.int .u8 (IntKind.wrap .u8 n)) := pL_conv k n Try.underlying131 Try.underlying5
theorem pN_len_sl_uint32 (ty : TypeId) (ao : Option Addr) (n c : Nat) (cs : List Bool) : pN Try.prog (oBi .len #[22] ty cs [.slice ao n c]) w K = K (.int .i64 n) w := pN_len 22 ty ao n c cs Try.underlying22
theorem pA_len_sl_uint32 (ty : TypeId) (ao : Option Addr) (n c : Nat) (cs : List Bool) : pA Try.prog (oBi .len #[22] ty cs [.slice ao n c]) J = J (.int .i64 n) := pA_len 22 ty ao n c cs Try.underlying22
theorem pN_len_sl_uint32_rd {v : Value} (ty : TypeId) {n s : Nat} {xs : List Value} (cs : List Bool) (hr : Rd w s v n xs) : pN Try.prog (oBi .len #[22] ty cs [v]) w K = K (.int .i64 n) w := by obtain ⟨_, ao, cap, rfl, _⟩ := hr; exact pN_len_sl_uint32 ty ao n cap cs
theorem pA_len_sl_uint32_rd {v : Value} (ty : TypeId) {n s : Nat} {xs : List Value} (cs : List Bool) (hr : Rd w s v n xs) : pA Try.prog (oBi .len #[22] ty cs [v]) J = J (.int .i64 n) := by obtain ⟨_, ao, cap, rfl, _⟩ := hr; exact pA_len_sl_uint32 ty ao n cap cs
theorem pN_len_sl_int (ty : TypeId) (ao : Option Addr) (n c : Nat) (cs : List Bool) : pN Try.prog (oBi .len #[23] ty cs [.slice ao n c]) w K = K (.int .i64 n) w := pN_len 23 ty ao n c cs Try.underlying23
theorem pA_len_sl_int (ty : TypeId) (ao : Option Addr) (n c : Nat) (cs : List Bool) : pA Try.prog (oBi .len #[23] ty cs [.slice ao n c]) J = J (.int .i64 n) := pA_len 23 ty ao n c cs Try.underlying23
theorem pN_len_sl_int_rd {v : Value} (ty : TypeId) {n s : Nat} {xs : List Value} (cs : List Bool) (hr : Rd w s v n xs) : pN Try.prog (oBi .len #[23] ty cs [v]) w K = K (.int .i64 n) w := by obtain ⟨_, ao, cap, rfl, _⟩ := hr; exact pN_len_sl_int ty ao n cap cs
theorem pA_len_sl_int_rd {v : Value} (ty : TypeId) {n s : Nat} {xs : List Value} (cs : List Bool) (hr : Rd w s v n xs) : pA Try.prog (oBi .len #[23] ty cs [v]) J = J (.int .i64 n) := by obtain ⟨_, ao, cap, rfl, _⟩ := hr; exact pA_len_sl_int ty ao n cap cs
theorem pN_len_sl_uint8 (ty : TypeId) (ao : Option Addr) (n c : Nat) (cs : List Bool) : pN Try.prog (oBi .len #[29] ty cs [.slice ao n c]) w K = K (.int .i64 n) w := pN_len 29 ty ao n c cs Try.underlying29
theorem pA_len_sl_uint8 (ty : TypeId) (ao : Option Addr) (n c : Nat) (cs : List Bool) : pA Try.prog (oBi .len #[29] ty cs [.slice ao n c]) J = J (.int .i64 n) := pA_len 29 ty ao n c cs Try.underlying29
theorem pN_len_sl_uint8_rd {v : Value} (ty : TypeId) {n s : Nat} {xs : List Value} (cs : List Bool) (hr : Rd w s v n xs) : pN Try.prog (oBi .len #[29] ty cs [v]) w K = K (.int .i64 n) w := by obtain ⟨_, ao, cap, rfl, _⟩ := hr; exact pN_len_sl_uint8 ty ao n cap cs
theorem pA_len_sl_uint8_rd {v : Value} (ty : TypeId) {n s : Nat} {xs : List Value} (cs : List Bool) (hr : Rd w s v n xs) : pA Try.prog (oBi .len #[29] ty cs [v]) J = J (.int .i64 n) := by obtain ⟨_, ao, cap, rfl, _⟩ := hr; exact pA_len_sl_uint8 ty ao n cap cs
theorem pN_len_sl_pithlaw07_Bit (ty : TypeId) (ao : Option Addr) (n c : Nat) (cs : List Bool) : pN Try.prog (oBi .len #[33] ty cs [.slice ao n c]) w K = K (.int .i64 n) w := pN_len 33 ty ao n c cs Try.underlying33
theorem pA_len_sl_pithlaw07_Bit (ty : TypeId) (ao : Option Addr) (n c : Nat) (cs : List Bool) : pA Try.prog (oBi .len #[33] ty cs [.slice ao n c]) J = J (.int .i64 n) := pA_len 33 ty ao n c cs Try.underlying33
theorem pN_len_sl_pithlaw07_Bit_rd {v : Value} (ty : TypeId) {n s : Nat} {xs : List Value} (cs : List Bool) (hr : Rd w s v n xs) : pN Try.prog (oBi .len #[33] ty cs [v]) w K = K (.int .i64 n) w := by obtain ⟨_, ao, cap, rfl, _⟩ := hr; exact pN_len_sl_pithlaw07_Bit ty ao n cap cs
theorem pA_len_sl_pithlaw07_Bit_rd {v : Value} (ty : TypeId) {n s : Nat} {xs : List Value} (cs : List Bool) (hr : Rd w s v n xs) : pA Try.prog (oBi .len #[33] ty cs [v]) J = J (.int .i64 n) := by obtain ⟨_, ao, cap, rfl, _⟩ := hr; exact pA_len_sl_pithlaw07_Bit ty ao n cap cs
theorem pN_len_sl_pithlaw07_Op (ty : TypeId) (ao : Option Addr) (n c : Nat) (cs : List Bool) : pN Try.prog (oBi .len #[49] ty cs [.slice ao n c]) w K = K (.int .i64 n) w := pN_len 49 ty ao n c cs Try.underlying49
theorem pA_len_sl_pithlaw07_Op (ty : TypeId) (ao : Option Addr) (n c : Nat) (cs : List Bool) : pA Try.prog (oBi .len #[49] ty cs [.slice ao n c]) J = J (.int .i64 n) := pA_len 49 ty ao n c cs Try.underlying49
theorem pN_len_sl_pithlaw07_Op_rd {v : Value} (ty : TypeId) {n s : Nat} {xs : List Value} (cs : List Bool) (hr : Rd w s v n xs) : pN Try.prog (oBi .len #[49] ty cs [v]) w K = K (.int .i64 n) w := by obtain ⟨_, ao, cap, rfl, _⟩ := hr; exact pN_len_sl_pithlaw07_Op ty ao n cap cs
theorem pA_len_sl_pithlaw07_Op_rd {v : Value} (ty : TypeId) {n s : Nat} {xs : List Value} (cs : List Bool) (hr : Rd w s v n xs) : pA Try.prog (oBi .len #[49] ty cs [v]) J = J (.int .i64 n) := by obtain ⟨_, ao, cap, rfl, _⟩ := hr; exact pA_len_sl_pithlaw07_Op ty ao n cap cs
theorem pN_len_sl_pithlaw07_Pair (ty : TypeId) (ao : Option Addr) (n c : Nat) (cs : List Bool) : pN Try.prog (oBi .len #[61] ty cs [.slice ao n c]) w K = K (.int .i64 n) w := pN_len 61 ty ao n c cs Try.underlying61
theorem pA_len_sl_pithlaw07_Pair (ty : TypeId) (ao : Option Addr) (n c : Nat) (cs : List Bool) : pA Try.prog (oBi .len #[61] ty cs [.slice ao n c]) J = J (.int .i64 n) := pA_len 61 ty ao n c cs Try.underlying61
theorem pN_len_sl_pithlaw07_Pair_rd {v : Value} (ty : TypeId) {n s : Nat} {xs : List Value} (cs : List Bool) (hr : Rd w s v n xs) : pN Try.prog (oBi .len #[61] ty cs [v]) w K = K (.int .i64 n) w := by obtain ⟨_, ao, cap, rfl, _⟩ := hr; exact pN_len_sl_pithlaw07_Pair ty ao n cap cs
theorem pA_len_sl_pithlaw07_Pair_rd {v : Value} (ty : TypeId) {n s : Nat} {xs : List Value} (cs : List Bool) (hr : Rd w s v n xs) : pA Try.prog (oBi .len #[61] ty cs [v]) J = J (.int .i64 n) := by obtain ⟨_, ao, cap, rfl, _⟩ := hr; exact pA_len_sl_pithlaw07_Pair ty ao n cap cs
theorem pN_len_sl_pithlaw07_Held (ty : TypeId) (ao : Option Addr) (n c : Nat) (cs : List Bool) : pN Try.prog (oBi .len #[62] ty cs [.slice ao n c]) w K = K (.int .i64 n) w := pN_len 62 ty ao n c cs Try.underlying62
theorem pA_len_sl_pithlaw07_Held (ty : TypeId) (ao : Option Addr) (n c : Nat) (cs : List Bool) : pA Try.prog (oBi .len #[62] ty cs [.slice ao n c]) J = J (.int .i64 n) := pA_len 62 ty ao n c cs Try.underlying62
theorem pN_len_sl_pithlaw07_Held_rd {v : Value} (ty : TypeId) {n s : Nat} {xs : List Value} (cs : List Bool) (hr : Rd w s v n xs) : pN Try.prog (oBi .len #[62] ty cs [v]) w K = K (.int .i64 n) w := by obtain ⟨_, ao, cap, rfl, _⟩ := hr; exact pN_len_sl_pithlaw07_Held ty ao n cap cs
theorem pA_len_sl_pithlaw07_Held_rd {v : Value} (ty : TypeId) {n s : Nat} {xs : List Value} (cs : List Bool) (hr : Rd w s v n xs) : pA Try.prog (oBi .len #[62] ty cs [v]) J = J (.int .i64 n) := by obtain ⟨_, ao, cap, rfl, _⟩ := hr; exact pA_len_sl_pithlaw07_Held ty ao n cap cs
theorem pN_len_sl_pithlaw08_Ask (ty : TypeId) (ao : Option Addr) (n c : Nat) (cs : List Bool) : pN Try.prog (oBi .len #[74] ty cs [.slice ao n c]) w K = K (.int .i64 n) w := pN_len 74 ty ao n c cs Try.underlying74
theorem pA_len_sl_pithlaw08_Ask (ty : TypeId) (ao : Option Addr) (n c : Nat) (cs : List Bool) : pA Try.prog (oBi .len #[74] ty cs [.slice ao n c]) J = J (.int .i64 n) := pA_len 74 ty ao n c cs Try.underlying74
theorem pN_len_sl_pithlaw08_Ask_rd {v : Value} (ty : TypeId) {n s : Nat} {xs : List Value} (cs : List Bool) (hr : Rd w s v n xs) : pN Try.prog (oBi .len #[74] ty cs [v]) w K = K (.int .i64 n) w := by obtain ⟨_, ao, cap, rfl, _⟩ := hr; exact pN_len_sl_pithlaw08_Ask ty ao n cap cs
theorem pA_len_sl_pithlaw08_Ask_rd {v : Value} (ty : TypeId) {n s : Nat} {xs : List Value} (cs : List Bool) (hr : Rd w s v n xs) : pA Try.prog (oBi .len #[74] ty cs [v]) J = J (.int .i64 n) := by obtain ⟨_, ao, cap, rfl, _⟩ := hr; exact pA_len_sl_pithlaw08_Ask ty ao n cap cs
theorem pN_len_sl_bool (ty : TypeId) (ao : Option Addr) (n c : Nat) (cs : List Bool) : pN Try.prog (oBi .len #[102] ty cs [.slice ao n c]) w K = K (.int .i64 n) w := pN_len 102 ty ao n c cs Try.underlying102
theorem pA_len_sl_bool (ty : TypeId) (ao : Option Addr) (n c : Nat) (cs : List Bool) : pA Try.prog (oBi .len #[102] ty cs [.slice ao n c]) J = J (.int .i64 n) := pA_len 102 ty ao n c cs Try.underlying102
theorem pN_len_sl_bool_rd {v : Value} (ty : TypeId) {n s : Nat} {xs : List Value} (cs : List Bool) (hr : Rd w s v n xs) : pN Try.prog (oBi .len #[102] ty cs [v]) w K = K (.int .i64 n) w := by obtain ⟨_, ao, cap, rfl, _⟩ := hr; exact pN_len_sl_bool ty ao n cap cs
theorem pA_len_sl_bool_rd {v : Value} (ty : TypeId) {n s : Nat} {xs : List Value} (cs : List Bool) (hr : Rd w s v n xs) : pA Try.prog (oBi .len #[102] ty cs [v]) J = J (.int .i64 n) := by obtain ⟨_, ao, cap, rfl, _⟩ := hr; exact pA_len_sl_bool ty ao n cap cs
theorem pN_len_sl_pithlaw09_Op (ty : TypeId) (ao : Option Addr) (n c : Nat) (cs : List Bool) : pN Try.prog (oBi .len #[110] ty cs [.slice ao n c]) w K = K (.int .i64 n) w := pN_len 110 ty ao n c cs Try.underlying110
theorem pA_len_sl_pithlaw09_Op (ty : TypeId) (ao : Option Addr) (n c : Nat) (cs : List Bool) : pA Try.prog (oBi .len #[110] ty cs [.slice ao n c]) J = J (.int .i64 n) := pA_len 110 ty ao n c cs Try.underlying110
theorem pN_len_sl_pithlaw09_Op_rd {v : Value} (ty : TypeId) {n s : Nat} {xs : List Value} (cs : List Bool) (hr : Rd w s v n xs) : pN Try.prog (oBi .len #[110] ty cs [v]) w K = K (.int .i64 n) w := by obtain ⟨_, ao, cap, rfl, _⟩ := hr; exact pN_len_sl_pithlaw09_Op ty ao n cap cs
theorem pA_len_sl_pithlaw09_Op_rd {v : Value} (ty : TypeId) {n s : Nat} {xs : List Value} (cs : List Bool) (hr : Rd w s v n xs) : pA Try.prog (oBi .len #[110] ty cs [v]) J = J (.int .i64 n) := by obtain ⟨_, ao, cap, rfl, _⟩ := hr; exact pA_len_sl_pithlaw09_Op ty ao n cap cs
theorem pN_len_sl_sl_uint8 (ty : TypeId) (ao : Option Addr) (n c : Nat) (cs : List Bool) : pN Try.prog (oBi .len #[120] ty cs [.slice ao n c]) w K = K (.int .i64 n) w := pN_len 120 ty ao n c cs Try.underlying120
theorem pA_len_sl_sl_uint8 (ty : TypeId) (ao : Option Addr) (n c : Nat) (cs : List Bool) : pA Try.prog (oBi .len #[120] ty cs [.slice ao n c]) J = J (.int .i64 n) := pA_len 120 ty ao n c cs Try.underlying120
theorem pN_len_sl_sl_uint8_rd {v : Value} (ty : TypeId) {n s : Nat} {xs : List Value} (cs : List Bool) (hr : Rd w s v n xs) : pN Try.prog (oBi .len #[120] ty cs [v]) w K = K (.int .i64 n) w := by obtain ⟨_, ao, cap, rfl, _⟩ := hr; exact pN_len_sl_sl_uint8 ty ao n cap cs
theorem pA_len_sl_sl_uint8_rd {v : Value} (ty : TypeId) {n s : Nat} {xs : List Value} (cs : List Bool) (hr : Rd w s v n xs) : pA Try.prog (oBi .len #[120] ty cs [v]) J = J (.int .i64 n) := by obtain ⟨_, ao, cap, rfl, _⟩ := hr; exact pA_len_sl_sl_uint8 ty ao n cap cs
theorem pN_len_sl_p_prob_Set (ty : TypeId) (ao : Option Addr) (n c : Nat) (cs : List Bool) : pN Try.prog (oBi .len #[127] ty cs [.slice ao n c]) w K = K (.int .i64 n) w := pN_len 127 ty ao n c cs Try.underlying127
theorem pA_len_sl_p_prob_Set (ty : TypeId) (ao : Option Addr) (n c : Nat) (cs : List Bool) : pA Try.prog (oBi .len #[127] ty cs [.slice ao n c]) J = J (.int .i64 n) := pA_len 127 ty ao n c cs Try.underlying127
theorem pN_len_sl_p_prob_Set_rd {v : Value} (ty : TypeId) {n s : Nat} {xs : List Value} (cs : List Bool) (hr : Rd w s v n xs) : pN Try.prog (oBi .len #[127] ty cs [v]) w K = K (.int .i64 n) w := by obtain ⟨_, ao, cap, rfl, _⟩ := hr; exact pN_len_sl_p_prob_Set ty ao n cap cs
theorem pA_len_sl_p_prob_Set_rd {v : Value} (ty : TypeId) {n s : Nat} {xs : List Value} (cs : List Bool) (hr : Rd w s v n xs) : pA Try.prog (oBi .len #[127] ty cs [v]) J = J (.int .i64 n) := by obtain ⟨_, ao, cap, rfl, _⟩ := hr; exact pA_len_sl_p_prob_Set ty ao n cap cs
theorem pN_len_sl_pithref09_Step (ty : TypeId) (ao : Option Addr) (n c : Nat) (cs : List Bool) : pN Try.prog (oBi .len #[171] ty cs [.slice ao n c]) w K = K (.int .i64 n) w := pN_len 171 ty ao n c cs Try.underlying171
theorem pA_len_sl_pithref09_Step (ty : TypeId) (ao : Option Addr) (n c : Nat) (cs : List Bool) : pA Try.prog (oBi .len #[171] ty cs [.slice ao n c]) J = J (.int .i64 n) := pA_len 171 ty ao n c cs Try.underlying171
theorem pN_len_sl_pithref09_Step_rd {v : Value} (ty : TypeId) {n s : Nat} {xs : List Value} (cs : List Bool) (hr : Rd w s v n xs) : pN Try.prog (oBi .len #[171] ty cs [v]) w K = K (.int .i64 n) w := by obtain ⟨_, ao, cap, rfl, _⟩ := hr; exact pN_len_sl_pithref09_Step ty ao n cap cs
theorem pA_len_sl_pithref09_Step_rd {v : Value} (ty : TypeId) {n s : Nat} {xs : List Value} (cs : List Bool) (hr : Rd w s v n xs) : pA Try.prog (oBi .len #[171] ty cs [v]) J = J (.int .i64 n) := by obtain ⟨_, ao, cap, rfl, _⟩ := hr; exact pA_len_sl_pithref09_Step ty ao n cap cs
theorem pN_aidx_arr4_int (b o : Nat) (k : IntKind) (i : Int) (h0 : 0 ≤ i) (h1 : i < 4) : pN Try.prog (oIdx 43 (.pointer (some ⟨b, o, none⟩)) (.int k i)) w K = K (.pointer (some ⟨b, o + i.toNat, none⟩)) w := pN_aidx Try.underlying43 Try.sizeOf3 b o k i h0 h1
theorem pA_aidx_arr4_int (b o : Nat) (k : IntKind) (i : Int) (h0 : 0 ≤ i) (h1 : i < 4) : pA Try.prog (oIdx 43 (.pointer (some ⟨b, o, none⟩)) (.int k i)) J = J (.pointer (some ⟨b, o + i.toNat, none⟩)) := pA_aidx Try.underlying43 Try.sizeOf3 b o k i h0 h1
theorem pN_aidx_arr2_p_prob_Set (b o : Nat) (k : IntKind) (i : Int) (h0 : 0 ≤ i) (h1 : i < 2) : pN Try.prog (oIdx 50 (.pointer (some ⟨b, o, none⟩)) (.int k i)) w K = K (.pointer (some ⟨b, o + i.toNat, none⟩)) w := pN_aidx Try.underlying50 Try.sizeOf34 b o k i h0 h1
theorem pA_aidx_arr2_p_prob_Set (b o : Nat) (k : IntKind) (i : Int) (h0 : 0 ≤ i) (h1 : i < 2) : pA Try.prog (oIdx 50 (.pointer (some ⟨b, o, none⟩)) (.int k i)) J = J (.pointer (some ⟨b, o + i.toNat, none⟩)) := pA_aidx Try.underlying50 Try.sizeOf34 b o k i h0 h1
theorem pN_aidx_arr2_p_pithref06_Set (b o : Nat) (k : IntKind) (i : Int) (h0 : 0 ≤ i) (h1 : i < 2) : pN Try.prog (oIdx 52 (.pointer (some ⟨b, o, none⟩)) (.int k i)) w K = K (.pointer (some ⟨b, o + i.toNat, none⟩)) w := pN_aidx Try.underlying52 Try.sizeOf51 b o k i h0 h1
theorem pA_aidx_arr2_p_pithref06_Set (b o : Nat) (k : IntKind) (i : Int) (h0 : 0 ≤ i) (h1 : i < 2) : pA Try.prog (oIdx 52 (.pointer (some ⟨b, o, none⟩)) (.int k i)) J = J (.pointer (some ⟨b, o + i.toNat, none⟩)) := pA_aidx Try.underlying52 Try.sizeOf51 b o k i h0 h1
theorem pN_eql_p_rcenc_Encoder (xo yo : Operand) (p : Option Addr) : pN Try.prog (oBin .eql 24 xo yo (.pointer p) (.pointer none)) w K = K (.bool (p.isNone)) w := pN_eql_ptr 24 xo yo p Try.underlying24
theorem pA_eql_p_rcenc_Encoder (xo yo : Operand) (p : Option Addr) : pA Try.prog (oBin .eql 24 xo yo (.pointer p) (.pointer none)) J = J (.bool (p.isNone)) := pA_eql_ptr 24 xo yo p Try.underlying24
theorem pN_neq_p_rcenc_Encoder (xo yo : Operand) (p : Option Addr) : pN Try.prog (oBin .neq 24 xo yo (.pointer p) (.pointer none)) w K = K (.bool (!p.isNone)) w := pN_neq_ptr 24 xo yo p Try.underlying24
theorem pA_neq_p_rcenc_Encoder (xo yo : Operand) (p : Option Addr) : pA Try.prog (oBin .neq 24 xo yo (.pointer p) (.pointer none)) J = J (.bool (!p.isNone)) := pA_neq_ptr 24 xo yo p Try.underlying24
theorem pN_eql_p_prob_Set (xo yo : Operand) (p : Option Addr) : pN Try.prog (oBin .eql 34 xo yo (.pointer p) (.pointer none)) w K = K (.bool (p.isNone)) w := pN_eql_ptr 34 xo yo p Try.underlying34
theorem pA_eql_p_prob_Set (xo yo : Operand) (p : Option Addr) : pA Try.prog (oBin .eql 34 xo yo (.pointer p) (.pointer none)) J = J (.bool (p.isNone)) := pA_eql_ptr 34 xo yo p Try.underlying34
theorem pN_neq_p_prob_Set (xo yo : Operand) (p : Option Addr) : pN Try.prog (oBin .neq 34 xo yo (.pointer p) (.pointer none)) w K = K (.bool (!p.isNone)) w := pN_neq_ptr 34 xo yo p Try.underlying34
theorem pA_neq_p_prob_Set (xo yo : Operand) (p : Option Addr) : pA Try.prog (oBin .neq 34 xo yo (.pointer p) (.pointer none)) J = J (.bool (!p.isNone)) := pA_neq_ptr 34 xo yo p Try.underlying34
theorem pN_eql_p_rcdec_Decoder (xo yo : Operand) (p : Option Addr) : pN Try.prog (oBin .eql 75 xo yo (.pointer p) (.pointer none)) w K = K (.bool (p.isNone)) w := pN_eql_ptr 75 xo yo p Try.underlying75
theorem pA_eql_p_rcdec_Decoder (xo yo : Operand) (p : Option Addr) : pA Try.prog (oBin .eql 75 xo yo (.pointer p) (.pointer none)) J = J (.bool (p.isNone)) := pA_eql_ptr 75 xo yo p Try.underlying75
theorem pN_neq_p_rcdec_Decoder (xo yo : Operand) (p : Option Addr) : pN Try.prog (oBin .neq 75 xo yo (.pointer p) (.pointer none)) w K = K (.bool (!p.isNone)) w := pN_neq_ptr 75 xo yo p Try.underlying75
theorem pA_neq_p_rcdec_Decoder (xo yo : Operand) (p : Option Addr) : pA Try.prog (oBin .neq 75 xo yo (.pointer p) (.pointer none)) J = J (.bool (!p.isNone)) := pA_neq_ptr 75 xo yo p Try.underlying75
theorem pN_eql_p_pithref08_Decoder (xo yo : Operand) (p : Option Addr) : pN Try.prog (oBin .eql 78 xo yo (.pointer p) (.pointer none)) w K = K (.bool (p.isNone)) w := pN_eql_ptr 78 xo yo p Try.underlying78
theorem pA_eql_p_pithref08_Decoder (xo yo : Operand) (p : Option Addr) : pA Try.prog (oBin .eql 78 xo yo (.pointer p) (.pointer none)) J = J (.bool (p.isNone)) := pA_eql_ptr 78 xo yo p Try.underlying78
theorem pN_neq_p_pithref08_Decoder (xo yo : Operand) (p : Option Addr) : pN Try.prog (oBin .neq 78 xo yo (.pointer p) (.pointer none)) w K = K (.bool (!p.isNone)) w := pN_neq_ptr 78 xo yo p Try.underlying78
theorem pA_neq_p_pithref08_Decoder (xo yo : Operand) (p : Option Addr) : pA Try.prog (oBin .neq 78 xo yo (.pointer p) (.pointer none)) J = J (.bool (!p.isNone)) := pA_neq_ptr 78 xo yo p Try.underlying78
theorem pN_eqlb_bool (xo yo : Operand) (p q : Bool) : pN Try.prog (oBin .eql 4 xo yo (.bool p) (.bool q)) w K = K (.bool (p == q)) w := pN_eql_bool 4 xo yo p q Try.underlying4
theorem pA_eqlb_bool (xo yo : Operand) (p q : Bool) : pA Try.prog (oBin .eql 4 xo yo (.bool p) (.bool q)) J = J (.bool (p == q)) := pA_eql_bool 4 xo yo p q Try.underlying4
theorem pN_neqb_bool (xo yo : Operand) (p q : Bool) : pN Try.prog (oBin .neq 4 xo yo (.bool p) (.bool q)) w K = K (.bool (p != q)) w := pN_neq_bool 4 xo yo p q Try.underlying4
theorem pA_neqb_bool (xo yo : Operand) (p q : Bool) : pA Try.prog (oBin .neq 4 xo yo (.bool p) (.bool q)) J = J (.bool (p != q)) := pA_neq_bool 4 xo yo p q Try.underlying4
theorem run_fld_pithlaw07_Bit_I (b o : Nat) (w : World) : (oFld 38 (.pointer (some ⟨b, o, none⟩)) 0).run Try.prog w = .ok (.value (.pointer (some ⟨b, o, none⟩))) w := by kernel_rfl
theorem pN_fld_pithlaw07_Bit_I (b o : Nat) : pN Try.prog (oFld 38 (.pointer (some ⟨b, o, none⟩)) 0) w K = K (.pointer (some ⟨b, o, none⟩)) w := by rw [pN_def, run_fld_pithlaw07_Bit_I, rN_value]
theorem pA_fld_pithlaw07_Bit_I (b o : Nat) : pA Try.prog (oFld 38 (.pointer (some ⟨b, o, none⟩)) 0) J = J (.pointer (some ⟨b, o, none⟩)) := by rw [pA_def, funext (run_fld_pithlaw07_Bit_I b o), rA_value]
theorem run_fld_pithlaw07_Bit_One (b o : Nat) (w : World) : (oFld 38 (.pointer (some ⟨b, o, none⟩)) 1).run Try.prog w = .ok (.value (.pointer (some ⟨b, o + 1, none⟩))) w := by kernel_rfl
theorem pN_fld_pithlaw07_Bit_One (b o : Nat) : pN Try.prog (oFld 38 (.pointer (some ⟨b, o, none⟩)) 1) w K = K (.pointer (some ⟨b, o + 1, none⟩)) w := by rw [pN_def, run_fld_pithlaw07_Bit_One, rN_value]
theorem pA_fld_pithlaw07_Bit_One (b o : Nat) : pA Try.prog (oFld 38 (.pointer (some ⟨b, o, none⟩)) 1) J = J (.pointer (some ⟨b, o + 1, none⟩)) := by rw [pA_def, funext (run_fld_pithlaw07_Bit_One b o), rA_value]
theorem run_fld_pithlaw07_Sets_P (b o : Nat) (w : World) : (oFld 54 (.pointer (some ⟨b, o, none⟩)) 0).run Try.prog w = .ok (.value (.pointer (some ⟨b, o, none⟩))) w := by kernel_rfl
theorem pN_fld_pithlaw07_Sets_P (b o : Nat) : pN Try.prog (oFld 54 (.pointer (some ⟨b, o, none⟩)) 0) w K = K (.pointer (some ⟨b, o, none⟩)) w := by rw [pN_def, run_fld_pithlaw07_Sets_P, rN_value]
theorem pA_fld_pithlaw07_Sets_P (b o : Nat) : pA Try.prog (oFld 54 (.pointer (some ⟨b, o, none⟩)) 0) J = J (.pointer (some ⟨b, o, none⟩)) := by rw [pA_def, funext (run_fld_pithlaw07_Sets_P b o), rA_value]
theorem run_fld_pithlaw07_Sets_R (b o : Nat) (w : World) : (oFld 54 (.pointer (some ⟨b, o, none⟩)) 1).run Try.prog w = .ok (.value (.pointer (some ⟨b, o + 2, none⟩))) w := by kernel_rfl
theorem pN_fld_pithlaw07_Sets_R (b o : Nat) : pN Try.prog (oFld 54 (.pointer (some ⟨b, o, none⟩)) 1) w K = K (.pointer (some ⟨b, o + 2, none⟩)) w := by rw [pN_def, run_fld_pithlaw07_Sets_R, rN_value]
theorem pA_fld_pithlaw07_Sets_R (b o : Nat) : pA Try.prog (oFld 54 (.pointer (some ⟨b, o, none⟩)) 1) J = J (.pointer (some ⟨b, o + 2, none⟩)) := by rw [pA_def, funext (run_fld_pithlaw07_Sets_R b o), rA_value]
theorem run_fld_pithlaw07_Pair_E (b o : Nat) (w : World) : (oFld 60 (.pointer (some ⟨b, o, none⟩)) 0).run Try.prog w = .ok (.value (.pointer (some ⟨b, o, none⟩))) w := by kernel_rfl
theorem pN_fld_pithlaw07_Pair_E (b o : Nat) : pN Try.prog (oFld 60 (.pointer (some ⟨b, o, none⟩)) 0) w K = K (.pointer (some ⟨b, o, none⟩)) w := by rw [pN_def, run_fld_pithlaw07_Pair_E, rN_value]
theorem pA_fld_pithlaw07_Pair_E (b o : Nat) : pA Try.prog (oFld 60 (.pointer (some ⟨b, o, none⟩)) 0) J = J (.pointer (some ⟨b, o, none⟩)) := by rw [pA_def, funext (run_fld_pithlaw07_Pair_E b o), rA_value]
theorem run_fld_pithlaw07_Pair_R (b o : Nat) (w : World) : (oFld 60 (.pointer (some ⟨b, o, none⟩)) 1).run Try.prog w = .ok (.value (.pointer (some ⟨b, o + 1, none⟩))) w := by kernel_rfl
theorem pN_fld_pithlaw07_Pair_R (b o : Nat) : pN Try.prog (oFld 60 (.pointer (some ⟨b, o, none⟩)) 1) w K = K (.pointer (some ⟨b, o + 1, none⟩)) w := by rw [pN_def, run_fld_pithlaw07_Pair_R, rN_value]
theorem pA_fld_pithlaw07_Pair_R (b o : Nat) : pA Try.prog (oFld 60 (.pointer (some ⟨b, o, none⟩)) 1) J = J (.pointer (some ⟨b, o + 1, none⟩)) := by rw [pA_def, funext (run_fld_pithlaw07_Pair_R b o), rA_value]
theorem run_fld_pithlaw07_Op_Kind (b o : Nat) (w : World) : (oFld 64 (.pointer (some ⟨b, o, none⟩)) 0).run Try.prog w = .ok (.value (.pointer (some ⟨b, o, none⟩))) w := by kernel_rfl
theorem pN_fld_pithlaw07_Op_Kind (b o : Nat) : pN Try.prog (oFld 64 (.pointer (some ⟨b, o, none⟩)) 0) w K = K (.pointer (some ⟨b, o, none⟩)) w := by rw [pN_def, run_fld_pithlaw07_Op_Kind, rN_value]
theorem pA_fld_pithlaw07_Op_Kind (b o : Nat) : pA Try.prog (oFld 64 (.pointer (some ⟨b, o, none⟩)) 0) J = J (.pointer (some ⟨b, o, none⟩)) := by rw [pA_def, funext (run_fld_pithlaw07_Op_Kind b o), rA_value]
theorem run_fld_pithlaw07_Op_E (b o : Nat) (w : World) : (oFld 64 (.pointer (some ⟨b, o, none⟩)) 1).run Try.prog w = .ok (.value (.pointer (some ⟨b, o + 1, none⟩))) w := by kernel_rfl
theorem pN_fld_pithlaw07_Op_E (b o : Nat) : pN Try.prog (oFld 64 (.pointer (some ⟨b, o, none⟩)) 1) w K = K (.pointer (some ⟨b, o + 1, none⟩)) w := by rw [pN_def, run_fld_pithlaw07_Op_E, rN_value]
theorem pA_fld_pithlaw07_Op_E (b o : Nat) : pA Try.prog (oFld 64 (.pointer (some ⟨b, o, none⟩)) 1) J = J (.pointer (some ⟨b, o + 1, none⟩)) := by rw [pA_def, funext (run_fld_pithlaw07_Op_E b o), rA_value]
theorem run_fld_pithlaw07_Op_S (b o : Nat) (w : World) : (oFld 64 (.pointer (some ⟨b, o, none⟩)) 2).run Try.prog w = .ok (.value (.pointer (some ⟨b, o + 2, none⟩))) w := by kernel_rfl
theorem pN_fld_pithlaw07_Op_S (b o : Nat) : pN Try.prog (oFld 64 (.pointer (some ⟨b, o, none⟩)) 2) w K = K (.pointer (some ⟨b, o + 2, none⟩)) w := by rw [pN_def, run_fld_pithlaw07_Op_S, rN_value]
theorem pA_fld_pithlaw07_Op_S (b o : Nat) : pA Try.prog (oFld 64 (.pointer (some ⟨b, o, none⟩)) 2) J = J (.pointer (some ⟨b, o + 2, none⟩)) := by rw [pA_def, funext (run_fld_pithlaw07_Op_S b o), rA_value]
theorem run_fld_pithlaw07_Op_I (b o : Nat) (w : World) : (oFld 64 (.pointer (some ⟨b, o, none⟩)) 3).run Try.prog w = .ok (.value (.pointer (some ⟨b, o + 3, none⟩))) w := by kernel_rfl
theorem pN_fld_pithlaw07_Op_I (b o : Nat) : pN Try.prog (oFld 64 (.pointer (some ⟨b, o, none⟩)) 3) w K = K (.pointer (some ⟨b, o + 3, none⟩)) w := by rw [pN_def, run_fld_pithlaw07_Op_I, rN_value]
theorem pA_fld_pithlaw07_Op_I (b o : Nat) : pA Try.prog (oFld 64 (.pointer (some ⟨b, o, none⟩)) 3) J = J (.pointer (some ⟨b, o + 3, none⟩)) := by rw [pA_def, funext (run_fld_pithlaw07_Op_I b o), rA_value]
theorem run_fld_pithlaw07_Op_Bit (b o : Nat) (w : World) : (oFld 64 (.pointer (some ⟨b, o, none⟩)) 4).run Try.prog w = .ok (.value (.pointer (some ⟨b, o + 4, none⟩))) w := by kernel_rfl
theorem pN_fld_pithlaw07_Op_Bit (b o : Nat) : pN Try.prog (oFld 64 (.pointer (some ⟨b, o, none⟩)) 4) w K = K (.pointer (some ⟨b, o + 4, none⟩)) w := by rw [pN_def, run_fld_pithlaw07_Op_Bit, rN_value]
theorem pA_fld_pithlaw07_Op_Bit (b o : Nat) : pA Try.prog (oFld 64 (.pointer (some ⟨b, o, none⟩)) 4) J = J (.pointer (some ⟨b, o + 4, none⟩)) := by rw [pA_def, funext (run_fld_pithlaw07_Op_Bit b o), rA_value]
theorem run_fld_pithlaw07_Op_V (b o : Nat) (w : World) : (oFld 64 (.pointer (some ⟨b, o, none⟩)) 5).run Try.prog w = .ok (.value (.pointer (some ⟨b, o + 5, none⟩))) w := by kernel_rfl
theorem pN_fld_pithlaw07_Op_V (b o : Nat) : pN Try.prog (oFld 64 (.pointer (some ⟨b, o, none⟩)) 5) w K = K (.pointer (some ⟨b, o + 5, none⟩)) w := by rw [pN_def, run_fld_pithlaw07_Op_V, rN_value]
theorem pA_fld_pithlaw07_Op_V (b o : Nat) : pA Try.prog (oFld 64 (.pointer (some ⟨b, o, none⟩)) 5) J = J (.pointer (some ⟨b, o + 5, none⟩)) := by rw [pA_def, funext (run_fld_pithlaw07_Op_V b o), rA_value]
theorem run_fld_pithlaw07_Op_N (b o : Nat) (w : World) : (oFld 64 (.pointer (some ⟨b, o, none⟩)) 6).run Try.prog w = .ok (.value (.pointer (some ⟨b, o + 6, none⟩))) w := by kernel_rfl
theorem pN_fld_pithlaw07_Op_N (b o : Nat) : pN Try.prog (oFld 64 (.pointer (some ⟨b, o, none⟩)) 6) w K = K (.pointer (some ⟨b, o + 6, none⟩)) w := by rw [pN_def, run_fld_pithlaw07_Op_N, rN_value]
theorem pA_fld_pithlaw07_Op_N (b o : Nat) : pA Try.prog (oFld 64 (.pointer (some ⟨b, o, none⟩)) 6) J = J (.pointer (some ⟨b, o + 6, none⟩)) := by rw [pA_def, funext (run_fld_pithlaw07_Op_N b o), rA_value]
theorem run_fld_pithlaw07_Held_B (b o : Nat) (w : World) : (oFld 68 (.pointer (some ⟨b, o, none⟩)) 0).run Try.prog w = .ok (.value (.pointer (some ⟨b, o, none⟩))) w := by kernel_rfl
theorem pN_fld_pithlaw07_Held_B (b o : Nat) : pN Try.prog (oFld 68 (.pointer (some ⟨b, o, none⟩)) 0) w K = K (.pointer (some ⟨b, o, none⟩)) w := by rw [pN_def, run_fld_pithlaw07_Held_B, rN_value]
theorem pA_fld_pithlaw07_Held_B (b o : Nat) : pA Try.prog (oFld 68 (.pointer (some ⟨b, o, none⟩)) 0) J = J (.pointer (some ⟨b, o, none⟩)) := by rw [pA_def, funext (run_fld_pithlaw07_Held_B b o), rA_value]
theorem run_fld_pithlaw07_Held_N (b o : Nat) (w : World) : (oFld 68 (.pointer (some ⟨b, o, none⟩)) 1).run Try.prog w = .ok (.value (.pointer (some ⟨b, o + 1, none⟩))) w := by kernel_rfl
theorem pN_fld_pithlaw07_Held_N (b o : Nat) : pN Try.prog (oFld 68 (.pointer (some ⟨b, o, none⟩)) 1) w K = K (.pointer (some ⟨b, o + 1, none⟩)) w := by rw [pN_def, run_fld_pithlaw07_Held_N, rN_value]
theorem pA_fld_pithlaw07_Held_N (b o : Nat) : pA Try.prog (oFld 68 (.pointer (some ⟨b, o, none⟩)) 1) J = J (.pointer (some ⟨b, o + 1, none⟩)) := by rw [pA_def, funext (run_fld_pithlaw07_Held_N b o), rA_value]
theorem run_fld_pithlaw07_Held_Mark (b o : Nat) (w : World) : (oFld 68 (.pointer (some ⟨b, o, none⟩)) 2).run Try.prog w = .ok (.value (.pointer (some ⟨b, o + 2, none⟩))) w := by kernel_rfl
theorem pN_fld_pithlaw07_Held_Mark (b o : Nat) : pN Try.prog (oFld 68 (.pointer (some ⟨b, o, none⟩)) 2) w K = K (.pointer (some ⟨b, o + 2, none⟩)) w := by rw [pN_def, run_fld_pithlaw07_Held_Mark, rN_value]
theorem pA_fld_pithlaw07_Held_Mark (b o : Nat) : pA Try.prog (oFld 68 (.pointer (some ⟨b, o, none⟩)) 2) J = J (.pointer (some ⟨b, o + 2, none⟩)) := by rw [pA_def, funext (run_fld_pithlaw07_Held_Mark b o), rA_value]
theorem run_fld_pithlaw07_Held_Want (b o : Nat) (w : World) : (oFld 68 (.pointer (some ⟨b, o, none⟩)) 3).run Try.prog w = .ok (.value (.pointer (some ⟨b, o + 3, none⟩))) w := by kernel_rfl
theorem pN_fld_pithlaw07_Held_Want (b o : Nat) : pN Try.prog (oFld 68 (.pointer (some ⟨b, o, none⟩)) 3) w K = K (.pointer (some ⟨b, o + 3, none⟩)) w := by rw [pN_def, run_fld_pithlaw07_Held_Want, rN_value]
theorem pA_fld_pithlaw07_Held_Want (b o : Nat) : pA Try.prog (oFld 68 (.pointer (some ⟨b, o, none⟩)) 3) J = J (.pointer (some ⟨b, o + 3, none⟩)) := by rw [pA_def, funext (run_fld_pithlaw07_Held_Want b o), rA_value]
theorem run_fld_pithlaw07_Held_Kept (b o : Nat) (w : World) : (oFld 68 (.pointer (some ⟨b, o, none⟩)) 4).run Try.prog w = .ok (.value (.pointer (some ⟨b, o + 4, none⟩))) w := by kernel_rfl
theorem pN_fld_pithlaw07_Held_Kept (b o : Nat) : pN Try.prog (oFld 68 (.pointer (some ⟨b, o, none⟩)) 4) w K = K (.pointer (some ⟨b, o + 4, none⟩)) w := by rw [pN_def, run_fld_pithlaw07_Held_Kept, rN_value]
theorem pA_fld_pithlaw07_Held_Kept (b o : Nat) : pA Try.prog (oFld 68 (.pointer (some ⟨b, o, none⟩)) 4) J = J (.pointer (some ⟨b, o + 4, none⟩)) := by rw [pA_def, funext (run_fld_pithlaw07_Held_Kept b o), rA_value]
theorem run_fld_pithlaw08_Ask_Direct (b o : Nat) (w : World) : (oFld 87 (.pointer (some ⟨b, o, none⟩)) 0).run Try.prog w = .ok (.value (.pointer (some ⟨b, o, none⟩))) w := by kernel_rfl
theorem pN_fld_pithlaw08_Ask_Direct (b o : Nat) : pN Try.prog (oFld 87 (.pointer (some ⟨b, o, none⟩)) 0) w K = K (.pointer (some ⟨b, o, none⟩)) w := by rw [pN_def, run_fld_pithlaw08_Ask_Direct, rN_value]
theorem pA_fld_pithlaw08_Ask_Direct (b o : Nat) : pA Try.prog (oFld 87 (.pointer (some ⟨b, o, none⟩)) 0) J = J (.pointer (some ⟨b, o, none⟩)) := by rw [pA_def, funext (run_fld_pithlaw08_Ask_Direct b o), rA_value]
theorem run_fld_pithlaw08_Ask_I (b o : Nat) (w : World) : (oFld 87 (.pointer (some ⟨b, o, none⟩)) 1).run Try.prog w = .ok (.value (.pointer (some ⟨b, o + 1, none⟩))) w := by kernel_rfl
theorem pN_fld_pithlaw08_Ask_I (b o : Nat) : pN Try.prog (oFld 87 (.pointer (some ⟨b, o, none⟩)) 1) w K = K (.pointer (some ⟨b, o + 1, none⟩)) w := by rw [pN_def, run_fld_pithlaw08_Ask_I, rN_value]
theorem pA_fld_pithlaw08_Ask_I (b o : Nat) : pA Try.prog (oFld 87 (.pointer (some ⟨b, o, none⟩)) 1) J = J (.pointer (some ⟨b, o + 1, none⟩)) := by rw [pA_def, funext (run_fld_pithlaw08_Ask_I b o), rA_value]
theorem run_fld_pithlaw08_Ask_N (b o : Nat) (w : World) : (oFld 87 (.pointer (some ⟨b, o, none⟩)) 2).run Try.prog w = .ok (.value (.pointer (some ⟨b, o + 2, none⟩))) w := by kernel_rfl
theorem pN_fld_pithlaw08_Ask_N (b o : Nat) : pN Try.prog (oFld 87 (.pointer (some ⟨b, o, none⟩)) 2) w K = K (.pointer (some ⟨b, o + 2, none⟩)) w := by rw [pN_def, run_fld_pithlaw08_Ask_N, rN_value]
theorem pA_fld_pithlaw08_Ask_N (b o : Nat) : pA Try.prog (oFld 87 (.pointer (some ⟨b, o, none⟩)) 2) J = J (.pointer (some ⟨b, o + 2, none⟩)) := by rw [pA_def, funext (run_fld_pithlaw08_Ask_N b o), rA_value]
theorem run_fld_pithlaw08_Ask_V (b o : Nat) (w : World) : (oFld 87 (.pointer (some ⟨b, o, none⟩)) 3).run Try.prog w = .ok (.value (.pointer (some ⟨b, o + 3, none⟩))) w := by kernel_rfl
theorem pN_fld_pithlaw08_Ask_V (b o : Nat) : pN Try.prog (oFld 87 (.pointer (some ⟨b, o, none⟩)) 3) w K = K (.pointer (some ⟨b, o + 3, none⟩)) w := by rw [pN_def, run_fld_pithlaw08_Ask_V, rN_value]
theorem pA_fld_pithlaw08_Ask_V (b o : Nat) : pA Try.prog (oFld 87 (.pointer (some ⟨b, o, none⟩)) 3) J = J (.pointer (some ⟨b, o + 3, none⟩)) := by rw [pA_def, funext (run_fld_pithlaw08_Ask_V b o), rA_value]
theorem run_fld_pithlaw08_Plan_N (b o : Nat) (w : World) : (oFld 98 (.pointer (some ⟨b, o, none⟩)) 0).run Try.prog w = .ok (.value (.pointer (some ⟨b, o, none⟩))) w := by kernel_rfl
theorem pN_fld_pithlaw08_Plan_N (b o : Nat) : pN Try.prog (oFld 98 (.pointer (some ⟨b, o, none⟩)) 0) w K = K (.pointer (some ⟨b, o, none⟩)) w := by rw [pN_def, run_fld_pithlaw08_Plan_N, rN_value]
theorem pA_fld_pithlaw08_Plan_N (b o : Nat) : pA Try.prog (oFld 98 (.pointer (some ⟨b, o, none⟩)) 0) J = J (.pointer (some ⟨b, o, none⟩)) := by rw [pA_def, funext (run_fld_pithlaw08_Plan_N b o), rA_value]
theorem run_fld_pithlaw08_Plan_Asks (b o : Nat) (w : World) : (oFld 98 (.pointer (some ⟨b, o, none⟩)) 1).run Try.prog w = .ok (.value (.pointer (some ⟨b, o + 1, none⟩))) w := by kernel_rfl
theorem pN_fld_pithlaw08_Plan_Asks (b o : Nat) : pN Try.prog (oFld 98 (.pointer (some ⟨b, o, none⟩)) 1) w K = K (.pointer (some ⟨b, o + 1, none⟩)) w := by rw [pN_def, run_fld_pithlaw08_Plan_Asks, rN_value]
theorem pA_fld_pithlaw08_Plan_Asks (b o : Nat) : pA Try.prog (oFld 98 (.pointer (some ⟨b, o, none⟩)) 1) J = J (.pointer (some ⟨b, o + 1, none⟩)) := by rw [pA_def, funext (run_fld_pithlaw08_Plan_Asks b o), rA_value]
theorem run_fld_pithlaw09_Op_Kind (b o : Nat) (w : World) : (oFld 116 (.pointer (some ⟨b, o, none⟩)) 0).run Try.prog w = .ok (.value (.pointer (some ⟨b, o, none⟩))) w := by kernel_rfl
theorem pN_fld_pithlaw09_Op_Kind (b o : Nat) : pN Try.prog (oFld 116 (.pointer (some ⟨b, o, none⟩)) 0) w K = K (.pointer (some ⟨b, o, none⟩)) w := by rw [pN_def, run_fld_pithlaw09_Op_Kind, rN_value]
theorem pA_fld_pithlaw09_Op_Kind (b o : Nat) : pA Try.prog (oFld 116 (.pointer (some ⟨b, o, none⟩)) 0) J = J (.pointer (some ⟨b, o, none⟩)) := by rw [pA_def, funext (run_fld_pithlaw09_Op_Kind b o), rA_value]
theorem run_fld_pithlaw09_Op_Row (b o : Nat) (w : World) : (oFld 116 (.pointer (some ⟨b, o, none⟩)) 1).run Try.prog w = .ok (.value (.pointer (some ⟨b, o + 1, none⟩))) w := by kernel_rfl
theorem pN_fld_pithlaw09_Op_Row (b o : Nat) : pN Try.prog (oFld 116 (.pointer (some ⟨b, o, none⟩)) 1) w K = K (.pointer (some ⟨b, o + 1, none⟩)) w := by rw [pN_def, run_fld_pithlaw09_Op_Row, rN_value]
theorem pA_fld_pithlaw09_Op_Row (b o : Nat) : pA Try.prog (oFld 116 (.pointer (some ⟨b, o, none⟩)) 1) J = J (.pointer (some ⟨b, o + 1, none⟩)) := by rw [pA_def, funext (run_fld_pithlaw09_Op_Row b o), rA_value]
theorem run_fld_pithlaw09_Op_At (b o : Nat) (w : World) : (oFld 116 (.pointer (some ⟨b, o, none⟩)) 2).run Try.prog w = .ok (.value (.pointer (some ⟨b, o + 2, none⟩))) w := by kernel_rfl
theorem pN_fld_pithlaw09_Op_At (b o : Nat) : pN Try.prog (oFld 116 (.pointer (some ⟨b, o, none⟩)) 2) w K = K (.pointer (some ⟨b, o + 2, none⟩)) w := by rw [pN_def, run_fld_pithlaw09_Op_At, rN_value]
theorem pA_fld_pithlaw09_Op_At (b o : Nat) : pA Try.prog (oFld 116 (.pointer (some ⟨b, o, none⟩)) 2) J = J (.pointer (some ⟨b, o + 2, none⟩)) := by rw [pA_def, funext (run_fld_pithlaw09_Op_At b o), rA_value]
theorem run_fld_pithlaw09_Op_N (b o : Nat) (w : World) : (oFld 116 (.pointer (some ⟨b, o, none⟩)) 3).run Try.prog w = .ok (.value (.pointer (some ⟨b, o + 3, none⟩))) w := by kernel_rfl
theorem pN_fld_pithlaw09_Op_N (b o : Nat) : pN Try.prog (oFld 116 (.pointer (some ⟨b, o, none⟩)) 3) w K = K (.pointer (some ⟨b, o + 3, none⟩)) w := by rw [pN_def, run_fld_pithlaw09_Op_N, rN_value]
theorem pA_fld_pithlaw09_Op_N (b o : Nat) : pA Try.prog (oFld 116 (.pointer (some ⟨b, o, none⟩)) 3) J = J (.pointer (some ⟨b, o + 3, none⟩)) := by rw [pA_def, funext (run_fld_pithlaw09_Op_N b o), rA_value]
theorem run_fld_pithlaw09_Op_V (b o : Nat) (w : World) : (oFld 116 (.pointer (some ⟨b, o, none⟩)) 4).run Try.prog w = .ok (.value (.pointer (some ⟨b, o + 4, none⟩))) w := by kernel_rfl
theorem pN_fld_pithlaw09_Op_V (b o : Nat) : pN Try.prog (oFld 116 (.pointer (some ⟨b, o, none⟩)) 4) w K = K (.pointer (some ⟨b, o + 4, none⟩)) w := by rw [pN_def, run_fld_pithlaw09_Op_V, rN_value]
theorem pA_fld_pithlaw09_Op_V (b o : Nat) : pA Try.prog (oFld 116 (.pointer (some ⟨b, o, none⟩)) 4) J = J (.pointer (some ⟨b, o + 4, none⟩)) := by rw [pA_def, funext (run_fld_pithlaw09_Op_V b o), rA_value]
theorem run_fld_pithlaw09_rows_S (b o : Nat) (w : World) : (oFld 130 (.pointer (some ⟨b, o, none⟩)) 0).run Try.prog w = .ok (.value (.pointer (some ⟨b, o, none⟩))) w := by kernel_rfl
theorem pN_fld_pithlaw09_rows_S (b o : Nat) : pN Try.prog (oFld 130 (.pointer (some ⟨b, o, none⟩)) 0) w K = K (.pointer (some ⟨b, o, none⟩)) w := by rw [pN_def, run_fld_pithlaw09_rows_S, rN_value]
theorem pA_fld_pithlaw09_rows_S (b o : Nat) : pA Try.prog (oFld 130 (.pointer (some ⟨b, o, none⟩)) 0) J = J (.pointer (some ⟨b, o, none⟩)) := by rw [pA_def, funext (run_fld_pithlaw09_rows_S b o), rA_value]
theorem run_fld_pithlaw09_rows_R (b o : Nat) (w : World) : (oFld 130 (.pointer (some ⟨b, o, none⟩)) 1).run Try.prog w = .ok (.value (.pointer (some ⟨b, o + 1, none⟩))) w := by kernel_rfl
theorem pN_fld_pithlaw09_rows_R (b o : Nat) : pN Try.prog (oFld 130 (.pointer (some ⟨b, o, none⟩)) 1) w K = K (.pointer (some ⟨b, o + 1, none⟩)) w := by rw [pN_def, run_fld_pithlaw09_rows_R, rN_value]
theorem pA_fld_pithlaw09_rows_R (b o : Nat) : pA Try.prog (oFld 130 (.pointer (some ⟨b, o, none⟩)) 1) J = J (.pointer (some ⟨b, o + 1, none⟩)) := by rw [pA_def, funext (run_fld_pithlaw09_rows_R b o), rA_value]
theorem run_fld_rcenc_Encoder_low (b o : Nat) (w : World) : (oFld 133 (.pointer (some ⟨b, o, none⟩)) 0).run Try.prog w = .ok (.value (.pointer (some ⟨b, o, none⟩))) w := by kernel_rfl
theorem pN_fld_rcenc_Encoder_low (b o : Nat) : pN Try.prog (oFld 133 (.pointer (some ⟨b, o, none⟩)) 0) w K = K (.pointer (some ⟨b, o, none⟩)) w := by rw [pN_def, run_fld_rcenc_Encoder_low, rN_value]
theorem pA_fld_rcenc_Encoder_low (b o : Nat) : pA Try.prog (oFld 133 (.pointer (some ⟨b, o, none⟩)) 0) J = J (.pointer (some ⟨b, o, none⟩)) := by rw [pA_def, funext (run_fld_rcenc_Encoder_low b o), rA_value]
theorem run_fld_rcenc_Encoder_rng (b o : Nat) (w : World) : (oFld 133 (.pointer (some ⟨b, o, none⟩)) 1).run Try.prog w = .ok (.value (.pointer (some ⟨b, o + 1, none⟩))) w := by kernel_rfl
theorem pN_fld_rcenc_Encoder_rng (b o : Nat) : pN Try.prog (oFld 133 (.pointer (some ⟨b, o, none⟩)) 1) w K = K (.pointer (some ⟨b, o + 1, none⟩)) w := by rw [pN_def, run_fld_rcenc_Encoder_rng, rN_value]
theorem pA_fld_rcenc_Encoder_rng (b o : Nat) : pA Try.prog (oFld 133 (.pointer (some ⟨b, o, none⟩)) 1) J = J (.pointer (some ⟨b, o + 1, none⟩)) := by rw [pA_def, funext (run_fld_rcenc_Encoder_rng b o), rA_value]
theorem run_fld_rcenc_Encoder_held (b o : Nat) (w : World) : (oFld 133 (.pointer (some ⟨b, o, none⟩)) 2).run Try.prog w = .ok (.value (.pointer (some ⟨b, o + 2, none⟩))) w := by kernel_rfl
theorem pN_fld_rcenc_Encoder_held (b o : Nat) : pN Try.prog (oFld 133 (.pointer (some ⟨b, o, none⟩)) 2) w K = K (.pointer (some ⟨b, o + 2, none⟩)) w := by rw [pN_def, run_fld_rcenc_Encoder_held, rN_value]
theorem pA_fld_rcenc_Encoder_held (b o : Nat) : pA Try.prog (oFld 133 (.pointer (some ⟨b, o, none⟩)) 2) J = J (.pointer (some ⟨b, o + 2, none⟩)) := by rw [pA_def, funext (run_fld_rcenc_Encoder_held b o), rA_value]
theorem run_fld_rcenc_Encoder_wait (b o : Nat) (w : World) : (oFld 133 (.pointer (some ⟨b, o, none⟩)) 3).run Try.prog w = .ok (.value (.pointer (some ⟨b, o + 3, none⟩))) w := by kernel_rfl
theorem pN_fld_rcenc_Encoder_wait (b o : Nat) : pN Try.prog (oFld 133 (.pointer (some ⟨b, o, none⟩)) 3) w K = K (.pointer (some ⟨b, o + 3, none⟩)) w := by rw [pN_def, run_fld_rcenc_Encoder_wait, rN_value]
theorem pA_fld_rcenc_Encoder_wait (b o : Nat) : pA Try.prog (oFld 133 (.pointer (some ⟨b, o, none⟩)) 3) J = J (.pointer (some ⟨b, o + 3, none⟩)) := by rw [pA_def, funext (run_fld_rcenc_Encoder_wait b o), rA_value]
theorem run_fld_rcenc_Encoder_out (b o : Nat) (w : World) : (oFld 133 (.pointer (some ⟨b, o, none⟩)) 4).run Try.prog w = .ok (.value (.pointer (some ⟨b, o + 4, none⟩))) w := by kernel_rfl
theorem pN_fld_rcenc_Encoder_out (b o : Nat) : pN Try.prog (oFld 133 (.pointer (some ⟨b, o, none⟩)) 4) w K = K (.pointer (some ⟨b, o + 4, none⟩)) w := by rw [pN_def, run_fld_rcenc_Encoder_out, rN_value]
theorem pA_fld_rcenc_Encoder_out (b o : Nat) : pA Try.prog (oFld 133 (.pointer (some ⟨b, o, none⟩)) 4) J = J (.pointer (some ⟨b, o + 4, none⟩)) := by rw [pA_def, funext (run_fld_rcenc_Encoder_out b o), rA_value]
theorem run_fld_prob_Set_p (b o : Nat) (w : World) : (oFld 137 (.pointer (some ⟨b, o, none⟩)) 0).run Try.prog w = .ok (.value (.pointer (some ⟨b, o, none⟩))) w := by kernel_rfl
theorem pN_fld_prob_Set_p (b o : Nat) : pN Try.prog (oFld 137 (.pointer (some ⟨b, o, none⟩)) 0) w K = K (.pointer (some ⟨b, o, none⟩)) w := by rw [pN_def, run_fld_prob_Set_p, rN_value]
theorem pA_fld_prob_Set_p (b o : Nat) : pA Try.prog (oFld 137 (.pointer (some ⟨b, o, none⟩)) 0) J = J (.pointer (some ⟨b, o, none⟩)) := by rw [pA_def, funext (run_fld_prob_Set_p b o), rA_value]
theorem run_fld_pithref07_Encoder_L (b o : Nat) (w : World) : (oFld 139 (.pointer (some ⟨b, o, none⟩)) 0).run Try.prog w = .ok (.value (.pointer (some ⟨b, o, none⟩))) w := by kernel_rfl
theorem pN_fld_pithref07_Encoder_L (b o : Nat) : pN Try.prog (oFld 139 (.pointer (some ⟨b, o, none⟩)) 0) w K = K (.pointer (some ⟨b, o, none⟩)) w := by rw [pN_def, run_fld_pithref07_Encoder_L, rN_value]
theorem pA_fld_pithref07_Encoder_L (b o : Nat) : pA Try.prog (oFld 139 (.pointer (some ⟨b, o, none⟩)) 0) J = J (.pointer (some ⟨b, o, none⟩)) := by rw [pA_def, funext (run_fld_pithref07_Encoder_L b o), rA_value]
theorem run_fld_pithref07_Encoder_R (b o : Nat) (w : World) : (oFld 139 (.pointer (some ⟨b, o, none⟩)) 1).run Try.prog w = .ok (.value (.pointer (some ⟨b, o + 1, none⟩))) w := by kernel_rfl
theorem pN_fld_pithref07_Encoder_R (b o : Nat) : pN Try.prog (oFld 139 (.pointer (some ⟨b, o, none⟩)) 1) w K = K (.pointer (some ⟨b, o + 1, none⟩)) w := by rw [pN_def, run_fld_pithref07_Encoder_R, rN_value]
theorem pA_fld_pithref07_Encoder_R (b o : Nat) : pA Try.prog (oFld 139 (.pointer (some ⟨b, o, none⟩)) 1) J = J (.pointer (some ⟨b, o + 1, none⟩)) := by rw [pA_def, funext (run_fld_pithref07_Encoder_R b o), rA_value]
theorem run_fld_pithref07_Encoder_Shifts (b o : Nat) (w : World) : (oFld 139 (.pointer (some ⟨b, o, none⟩)) 2).run Try.prog w = .ok (.value (.pointer (some ⟨b, o + 2, none⟩))) w := by kernel_rfl
theorem pN_fld_pithref07_Encoder_Shifts (b o : Nat) : pN Try.prog (oFld 139 (.pointer (some ⟨b, o, none⟩)) 2) w K = K (.pointer (some ⟨b, o + 2, none⟩)) w := by rw [pN_def, run_fld_pithref07_Encoder_Shifts, rN_value]
theorem pA_fld_pithref07_Encoder_Shifts (b o : Nat) : pA Try.prog (oFld 139 (.pointer (some ⟨b, o, none⟩)) 2) J = J (.pointer (some ⟨b, o + 2, none⟩)) := by rw [pA_def, funext (run_fld_pithref07_Encoder_Shifts b o), rA_value]
theorem run_fld_pithref06_Set_N (b o : Nat) (w : World) : (oFld 145 (.pointer (some ⟨b, o, none⟩)) 0).run Try.prog w = .ok (.value (.pointer (some ⟨b, o, none⟩))) w := by kernel_rfl
theorem pN_fld_pithref06_Set_N (b o : Nat) : pN Try.prog (oFld 145 (.pointer (some ⟨b, o, none⟩)) 0) w K = K (.pointer (some ⟨b, o, none⟩)) w := by rw [pN_def, run_fld_pithref06_Set_N, rN_value]
theorem pA_fld_pithref06_Set_N (b o : Nat) : pA Try.prog (oFld 145 (.pointer (some ⟨b, o, none⟩)) 0) J = J (.pointer (some ⟨b, o, none⟩)) := by rw [pA_def, funext (run_fld_pithref06_Set_N b o), rA_value]
theorem run_fld_pithref06_Set_P (b o : Nat) (w : World) : (oFld 145 (.pointer (some ⟨b, o, none⟩)) 1).run Try.prog w = .ok (.value (.pointer (some ⟨b, o + 1, none⟩))) w := by kernel_rfl
theorem pN_fld_pithref06_Set_P (b o : Nat) : pN Try.prog (oFld 145 (.pointer (some ⟨b, o, none⟩)) 1) w K = K (.pointer (some ⟨b, o + 1, none⟩)) w := by rw [pN_def, run_fld_pithref06_Set_P, rN_value]
theorem pA_fld_pithref06_Set_P (b o : Nat) : pA Try.prog (oFld 145 (.pointer (some ⟨b, o, none⟩)) 1) J = J (.pointer (some ⟨b, o + 1, none⟩)) := by rw [pA_def, funext (run_fld_pithref06_Set_P b o), rA_value]
theorem run_fld_rcdec_place_read (b o : Nat) (w : World) : (oFld 147 (.pointer (some ⟨b, o, none⟩)) 0).run Try.prog w = .ok (.value (.pointer (some ⟨b, o, none⟩))) w := by kernel_rfl
theorem pN_fld_rcdec_place_read (b o : Nat) : pN Try.prog (oFld 147 (.pointer (some ⟨b, o, none⟩)) 0) w K = K (.pointer (some ⟨b, o, none⟩)) w := by rw [pN_def, run_fld_rcdec_place_read, rN_value]
theorem pA_fld_rcdec_place_read (b o : Nat) : pA Try.prog (oFld 147 (.pointer (some ⟨b, o, none⟩)) 0) J = J (.pointer (some ⟨b, o, none⟩)) := by rw [pA_def, funext (run_fld_rcdec_place_read b o), rA_value]
theorem run_fld_rcdec_place_rng (b o : Nat) (w : World) : (oFld 147 (.pointer (some ⟨b, o, none⟩)) 1).run Try.prog w = .ok (.value (.pointer (some ⟨b, o + 1, none⟩))) w := by kernel_rfl
theorem pN_fld_rcdec_place_rng (b o : Nat) : pN Try.prog (oFld 147 (.pointer (some ⟨b, o, none⟩)) 1) w K = K (.pointer (some ⟨b, o + 1, none⟩)) w := by rw [pN_def, run_fld_rcdec_place_rng, rN_value]
theorem pA_fld_rcdec_place_rng (b o : Nat) : pA Try.prog (oFld 147 (.pointer (some ⟨b, o, none⟩)) 1) J = J (.pointer (some ⟨b, o + 1, none⟩)) := by rw [pA_def, funext (run_fld_rcdec_place_rng b o), rA_value]
theorem run_fld_rcdec_place_now (b o : Nat) (w : World) : (oFld 147 (.pointer (some ⟨b, o, none⟩)) 2).run Try.prog w = .ok (.value (.pointer (some ⟨b, o + 2, none⟩))) w := by kernel_rfl
theorem pN_fld_rcdec_place_now (b o : Nat) : pN Try.prog (oFld 147 (.pointer (some ⟨b, o, none⟩)) 2) w K = K (.pointer (some ⟨b, o + 2, none⟩)) w := by rw [pN_def, run_fld_rcdec_place_now, rN_value]
theorem pA_fld_rcdec_place_now (b o : Nat) : pA Try.prog (oFld 147 (.pointer (some ⟨b, o, none⟩)) 2) J = J (.pointer (some ⟨b, o + 2, none⟩)) := by rw [pA_def, funext (run_fld_rcdec_place_now b o), rA_value]
theorem run_fld_rcdec_Decoder_b (b o : Nat) (w : World) : (oFld 149 (.pointer (some ⟨b, o, none⟩)) 0).run Try.prog w = .ok (.value (.pointer (some ⟨b, o, none⟩))) w := by kernel_rfl
theorem pN_fld_rcdec_Decoder_b (b o : Nat) : pN Try.prog (oFld 149 (.pointer (some ⟨b, o, none⟩)) 0) w K = K (.pointer (some ⟨b, o, none⟩)) w := by rw [pN_def, run_fld_rcdec_Decoder_b, rN_value]
theorem pA_fld_rcdec_Decoder_b (b o : Nat) : pA Try.prog (oFld 149 (.pointer (some ⟨b, o, none⟩)) 0) J = J (.pointer (some ⟨b, o, none⟩)) := by rw [pA_def, funext (run_fld_rcdec_Decoder_b b o), rA_value]
theorem run_fld_rcdec_Decoder_place (b o : Nat) (w : World) : (oFld 149 (.pointer (some ⟨b, o, none⟩)) 1).run Try.prog w = .ok (.value (.pointer (some ⟨b, o + 1, none⟩))) w := by kernel_rfl
theorem pN_fld_rcdec_Decoder_place (b o : Nat) : pN Try.prog (oFld 149 (.pointer (some ⟨b, o, none⟩)) 1) w K = K (.pointer (some ⟨b, o + 1, none⟩)) w := by rw [pN_def, run_fld_rcdec_Decoder_place, rN_value]
theorem pA_fld_rcdec_Decoder_place (b o : Nat) : pA Try.prog (oFld 149 (.pointer (some ⟨b, o, none⟩)) 1) J = J (.pointer (some ⟨b, o + 1, none⟩)) := by rw [pA_def, funext (run_fld_rcdec_Decoder_place b o), rA_value]
theorem run_fld_pithref08_Decoder_B (b o : Nat) (w : World) : (oFld 151 (.pointer (some ⟨b, o, none⟩)) 0).run Try.prog w = .ok (.value (.pointer (some ⟨b, o, none⟩))) w := by kernel_rfl
theorem pN_fld_pithref08_Decoder_B (b o : Nat) : pN Try.prog (oFld 151 (.pointer (some ⟨b, o, none⟩)) 0) w K = K (.pointer (some ⟨b, o, none⟩)) w := by rw [pN_def, run_fld_pithref08_Decoder_B, rN_value]
theorem pA_fld_pithref08_Decoder_B (b o : Nat) : pA Try.prog (oFld 151 (.pointer (some ⟨b, o, none⟩)) 0) J = J (.pointer (some ⟨b, o, none⟩)) := by rw [pA_def, funext (run_fld_pithref08_Decoder_B b o), rA_value]
theorem run_fld_pithref08_Decoder_Read (b o : Nat) (w : World) : (oFld 151 (.pointer (some ⟨b, o, none⟩)) 1).run Try.prog w = .ok (.value (.pointer (some ⟨b, o + 1, none⟩))) w := by kernel_rfl
theorem pN_fld_pithref08_Decoder_Read (b o : Nat) : pN Try.prog (oFld 151 (.pointer (some ⟨b, o, none⟩)) 1) w K = K (.pointer (some ⟨b, o + 1, none⟩)) w := by rw [pN_def, run_fld_pithref08_Decoder_Read, rN_value]
theorem pA_fld_pithref08_Decoder_Read (b o : Nat) : pA Try.prog (oFld 151 (.pointer (some ⟨b, o, none⟩)) 1) J = J (.pointer (some ⟨b, o + 1, none⟩)) := by rw [pA_def, funext (run_fld_pithref08_Decoder_Read b o), rA_value]
theorem run_fld_pithref08_Decoder_R (b o : Nat) (w : World) : (oFld 151 (.pointer (some ⟨b, o, none⟩)) 2).run Try.prog w = .ok (.value (.pointer (some ⟨b, o + 2, none⟩))) w := by kernel_rfl
theorem pN_fld_pithref08_Decoder_R (b o : Nat) : pN Try.prog (oFld 151 (.pointer (some ⟨b, o, none⟩)) 2) w K = K (.pointer (some ⟨b, o + 2, none⟩)) w := by rw [pN_def, run_fld_pithref08_Decoder_R, rN_value]
theorem pA_fld_pithref08_Decoder_R (b o : Nat) : pA Try.prog (oFld 151 (.pointer (some ⟨b, o, none⟩)) 2) J = J (.pointer (some ⟨b, o + 2, none⟩)) := by rw [pA_def, funext (run_fld_pithref08_Decoder_R b o), rA_value]
theorem run_fld_pithref08_Decoder_C (b o : Nat) (w : World) : (oFld 151 (.pointer (some ⟨b, o, none⟩)) 3).run Try.prog w = .ok (.value (.pointer (some ⟨b, o + 3, none⟩))) w := by kernel_rfl
theorem pN_fld_pithref08_Decoder_C (b o : Nat) : pN Try.prog (oFld 151 (.pointer (some ⟨b, o, none⟩)) 3) w K = K (.pointer (some ⟨b, o + 3, none⟩)) w := by rw [pN_def, run_fld_pithref08_Decoder_C, rN_value]
theorem pA_fld_pithref08_Decoder_C (b o : Nat) : pA Try.prog (oFld 151 (.pointer (some ⟨b, o, none⟩)) 3) J = J (.pointer (some ⟨b, o + 3, none⟩)) := by rw [pA_def, funext (run_fld_pithref08_Decoder_C b o), rA_value]
theorem run_fld_pithref09_Step_At (b o : Nat) (w : World) : (oFld 175 (.pointer (some ⟨b, o, none⟩)) 0).run Try.prog w = .ok (.value (.pointer (some ⟨b, o, none⟩))) w := by kernel_rfl
theorem pN_fld_pithref09_Step_At (b o : Nat) : pN Try.prog (oFld 175 (.pointer (some ⟨b, o, none⟩)) 0) w K = K (.pointer (some ⟨b, o, none⟩)) w := by rw [pN_def, run_fld_pithref09_Step_At, rN_value]
theorem pA_fld_pithref09_Step_At (b o : Nat) : pA Try.prog (oFld 175 (.pointer (some ⟨b, o, none⟩)) 0) J = J (.pointer (some ⟨b, o, none⟩)) := by rw [pA_def, funext (run_fld_pithref09_Step_At b o), rA_value]
theorem run_fld_pithref09_Step_Bit (b o : Nat) (w : World) : (oFld 175 (.pointer (some ⟨b, o, none⟩)) 1).run Try.prog w = .ok (.value (.pointer (some ⟨b, o + 1, none⟩))) w := by kernel_rfl
theorem pN_fld_pithref09_Step_Bit (b o : Nat) : pN Try.prog (oFld 175 (.pointer (some ⟨b, o, none⟩)) 1) w K = K (.pointer (some ⟨b, o + 1, none⟩)) w := by rw [pN_def, run_fld_pithref09_Step_Bit, rN_value]
theorem pA_fld_pithref09_Step_Bit (b o : Nat) : pA Try.prog (oFld 175 (.pointer (some ⟨b, o, none⟩)) 1) J = J (.pointer (some ⟨b, o + 1, none⟩)) := by rw [pA_def, funext (run_fld_pithref09_Step_Bit b o), rA_value]
theorem call_pithlaw07_RcencDirect (args : Array Value) (w : World) : (callFunc 3 args).run Try.prog w = .ok (.enter 3 args) w := Try.call3 args w
theorem call_pithlaw07_RcencOrder (args : Array Value) (w : World) : (callFunc 4 args).run Try.prog w = .ok (.enter 4 args) w := Try.call4 args w
theorem call_pithlaw07_RcencTurns (args : Array Value) (w : World) : (callFunc 5 args).run Try.prog w = .ok (.enter 5 args) w := Try.call5 args w
theorem call_pithlaw07_RcencPlays (args : Array Value) (w : World) : (callFunc 6 args).run Try.prog w = .ok (.enter 6 args) w := Try.call6 args w
theorem call_pithlaw07_RcencAsked (args : Array Value) (w : World) : (callFunc 7 args).run Try.prog w = .ok (.enter 7 args) w := Try.call7 args w
theorem call_pithlaw08_RcdecExact (args : Array Value) (w : World) : (callFunc 8 args).run Try.prog w = .ok (.enter 8 args) w := Try.call8 args w
theorem call_pithlaw08_RcdecBegins (args : Array Value) (w : World) : (callFunc 9 args).run Try.prog w = .ok (.enter 9 args) w := Try.call9 args w
theorem call_pithlaw08_RcdecApart (args : Array Value) (w : World) : (callFunc 10 args).run Try.prog w = .ok (.enter 10 args) w := Try.call10 args w
theorem call_pithlaw09_TreeCheaper (args : Array Value) (w : World) : (callFunc 11 args).run Try.prog w = .ok (.enter 11 args) w := Try.call11 args w
theorem call_pithlaw09_TreeTwoOrders (args : Array Value) (w : World) : (callFunc 12 args).run Try.prog w = .ok (.enter 12 args) w := Try.call12 args w
theorem call_pithlaw09_TreeCodes (args : Array Value) (w : World) : (callFunc 13 args).run Try.prog w = .ok (.enter 13 args) w := Try.call13 args w
theorem call_pithlaw08_RcdecBack (args : Array Value) (w : World) : (callFunc 14 args).run Try.prog w = .ok (.enter 14 args) w := Try.call14 args w
theorem call_pithlaw08_RcdecAgain (args : Array Value) (w : World) : (callFunc 15 args).run Try.prog w = .ok (.enter 15 args) w := Try.call15 args w
theorem call_pithlaw09_TreeReads (args : Array Value) (w : World) : (callFunc 16 args).run Try.prog w = .ok (.enter 16 args) w := Try.call16 args w
theorem call_pithlaw09_TreeBack (args : Array Value) (w : World) : (callFunc 17 args).run Try.prog w = .ok (.enter 17 args) w := Try.call17 args w
theorem call_rcenc_New (args : Array Value) (w : World) : (callFunc 18 args).run Try.prog w = .ok (.enter 18 args) w := Try.call18 args w
theorem call_rcenc_Encoder_Direct (args : Array Value) (w : World) : (callFunc 19 args).run Try.prog w = .ok (.enter 19 args) w := Try.call19 args w
theorem call_rcenc_Encoder_Bytes (args : Array Value) (w : World) : (callFunc 20 args).run Try.prog w = .ok (.enter 20 args) w := Try.call20 args w
theorem call_rcenc_Encoder_Size (args : Array Value) (w : World) : (callFunc 21 args).run Try.prog w = .ok (.enter 21 args) w := Try.call21 args w
theorem call_pithlaw07_begun (args : Array Value) (w : World) : (callFunc 22 args).run Try.prog w = .ok (.enter 22 args) w := Try.call22 args w
theorem call_pithlaw07_lays (args : Array Value) (w : World) : (callFunc 23 args).run Try.prog w = .ok (.enter 23 args) w := Try.call23 args w
theorem call_pithlaw07_number (args : Array Value) (w : World) : (callFunc 24 args).run Try.prog w = .ok (.enter 24 args) w := Try.call24 args w
theorem call_prob_Next (args : Array Value) (w : World) : (callFunc 25 args).run Try.prog w = .ok (.enter 25 args) w := Try.call25 args w
theorem call_pithlaw07_worth (args : Array Value) (w : World) : (callFunc 26 args).run Try.prog w = .ok (.enter 26 args) w := Try.call26 args w
theorem call_rcenc_Encoder_Bit (args : Array Value) (w : World) : (callFunc 27 args).run Try.prog w = .ok (.enter 27 args) w := Try.call27 args w
theorem call_prob_Set_At (args : Array Value) (w : World) : (callFunc 28 args).run Try.prog w = .ok (.enter 28 args) w := Try.call28 args w
theorem call_pithlaw07_sets (args : Array Value) (w : World) : (callFunc 29 args).run Try.prog w = .ok (.enter 29 args) w := Try.call29 args w
theorem call_pithref07_New (args : Array Value) (w : World) : (callFunc 30 args).run Try.prog w = .ok (.enter 30 args) w := Try.call30 args w
theorem call_pithref07_Encoder_Bit (args : Array Value) (w : World) : (callFunc 31 args).run Try.prog w = .ok (.enter 31 args) w := Try.call31 args w
theorem call_pithref07_Encoder_Direct (args : Array Value) (w : World) : (callFunc 32 args).run Try.prog w = .ok (.enter 32 args) w := Try.call32 args w
theorem call_pithref07_Encoder_Size (args : Array Value) (w : World) : (callFunc 33 args).run Try.prog w = .ok (.enter 33 args) w := Try.call33 args w
theorem call_pithref07_Encoder_Bytes (args : Array Value) (w : World) : (callFunc 34 args).run Try.prog w = .ok (.enter 34 args) w := Try.call34 args w
theorem call_pithlaw07_hold (args : Array Value) (w : World) : (callFunc 35 args).run Try.prog w = .ok (.enter 35 args) w := Try.call35 args w
theorem call_rcenc_Encoder_Fork (args : Array Value) (w : World) : (callFunc 36 args).run Try.prog w = .ok (.enter 36 args) w := Try.call36 args w
theorem call_pithref07_Encoder_Fork (args : Array Value) (w : World) : (callFunc 37 args).run Try.prog w = .ok (.enter 37 args) w := Try.call37 args w
theorem call_pithlaw07_Sets_alike (args : Array Value) (w : World) : (callFunc 38 args).run Try.prog w = .ok (.enter 38 args) w := Try.call38 args w
theorem call_pithlaw07_held (args : Array Value) (w : World) : (callFunc 39 args).run Try.prog w = .ok (.enter 39 args) w := Try.call39 args w
theorem call_prob_Set_Fork (args : Array Value) (w : World) : (callFunc 40 args).run Try.prog w = .ok (.enter 40 args) w := Try.call40 args w
theorem call_pithlaw08_known (args : Array Value) (w : World) : (callFunc 41 args).run Try.prog w = .ok (.enter 41 args) w := Try.call41 args w
theorem call_rcdec_New (args : Array Value) (w : World) : (callFunc 42 args).run Try.prog w = .ok (.enter 42 args) w := Try.call42 args w
theorem call_pithref08_New (args : Array Value) (w : World) : (callFunc 43 args).run Try.prog w = .ok (.enter 43 args) w := Try.call43 args w
theorem call_pithlaw08_num (args : Array Value) (w : World) : (callFunc 44 args).run Try.prog w = .ok (.enter 44 args) w := Try.call44 args w
theorem call_prob_New (args : Array Value) (w : World) : (callFunc 45 args).run Try.prog w = .ok (.enter 45 args) w := Try.call45 args w
theorem call_pithref06_New (args : Array Value) (w : World) : (callFunc 46 args).run Try.prog w = .ok (.enter 46 args) w := Try.call46 args w
theorem call_rcdec_Decoder_Direct (args : Array Value) (w : World) : (callFunc 47 args).run Try.prog w = .ok (.enter 47 args) w := Try.call47 args w
theorem call_pithref08_Decoder_Direct (args : Array Value) (w : World) : (callFunc 48 args).run Try.prog w = .ok (.enter 48 args) w := Try.call48 args w
theorem call_rcdec_Decoder_Bit (args : Array Value) (w : World) : (callFunc 49 args).run Try.prog w = .ok (.enter 49 args) w := Try.call49 args w
theorem call_pithref08_Decoder_Bit (args : Array Value) (w : World) : (callFunc 50 args).run Try.prog w = .ok (.enter 50 args) w := Try.call50 args w
theorem call_rcdec_Decoder_Used (args : Array Value) (w : World) : (callFunc 51 args).run Try.prog w = .ok (.enter 51 args) w := Try.call51 args w
theorem call_pithref08_Decoder_Used (args : Array Value) (w : World) : (callFunc 52 args).run Try.prog w = .ok (.enter 52 args) w := Try.call52 args w
theorem call_rcdec_Decoder_Done (args : Array Value) (w : World) : (callFunc 53 args).run Try.prog w = .ok (.enter 53 args) w := Try.call53 args w
theorem call_pithref08_Decoder_Done (args : Array Value) (w : World) : (callFunc 54 args).run Try.prog w = .ok (.enter 54 args) w := Try.call54 args w
theorem call_pithlaw08_alike (args : Array Value) (w : World) : (callFunc 55 args).run Try.prog w = .ok (.enter 55 args) w := Try.call55 args w
theorem call_pithlaw08_answered (args : Array Value) (w : World) : (callFunc 56 args).run Try.prog w = .ok (.enter 56 args) w := Try.call56 args w
theorem call_pithlaw09_fixed (args : Array Value) (w : World) : (callFunc 57 args).run Try.prog w = .ok (.enter 57 args) w := Try.call57 args w
theorem call_tree_Cost (args : Array Value) (w : World) : (callFunc 58 args).run Try.prog w = .ok (.enter 58 args) w := Try.call58 args w
theorem call_tree_CostBack (args : Array Value) (w : World) : (callFunc 59 args).run Try.prog w = .ok (.enter 59 args) w := Try.call59 args w
theorem call_tree_PutBack (args : Array Value) (w : World) : (callFunc 60 args).run Try.prog w = .ok (.enter 60 args) w := Try.call60 args w
theorem call_tree_Put (args : Array Value) (w : World) : (callFunc 61 args).run Try.prog w = .ok (.enter 61 args) w := Try.call61 args w
theorem call_prob_Set_Turn (args : Array Value) (w : World) : (callFunc 62 args).run Try.prog w = .ok (.enter 62 args) w := Try.call62 args w
theorem call_prob_Set_Len (args : Array Value) (w : World) : (callFunc 63 args).run Try.prog w = .ok (.enter 63 args) w := Try.call63 args w
theorem call_pithlaw09_turned (args : Array Value) (w : World) : (callFunc 64 args).run Try.prog w = .ok (.enter 64 args) w := Try.call64 args w
theorem call_pithlaw09_alike (args : Array Value) (w : World) : (callFunc 65 args).run Try.prog w = .ok (.enter 65 args) w := Try.call65 args w
theorem call_pithlaw09_made (args : Array Value) (w : World) : (callFunc 66 args).run Try.prog w = .ok (.enter 66 args) w := Try.call66 args w
theorem call_pithlaw09_rows_codes (args : Array Value) (w : World) : (callFunc 67 args).run Try.prog w = .ok (.enter 67 args) w := Try.call67 args w
theorem call_pithlaw09_rows_same (args : Array Value) (w : World) : (callFunc 68 args).run Try.prog w = .ok (.enter 68 args) w := Try.call68 args w
theorem call_pithlaw08_encoded (args : Array Value) (w : World) : (callFunc 69 args).run Try.prog w = .ok (.enter 69 args) w := Try.call69 args w
theorem call_pithlaw08_low (args : Array Value) (w : World) : (callFunc 70 args).run Try.prog w = .ok (.enter 70 args) w := Try.call70 args w
theorem call_pithlaw09_rows_reads (args : Array Value) (w : World) : (callFunc 71 args).run Try.prog w = .ok (.enter 71 args) w := Try.call71 args w
theorem call_pithlaw09_rows_given (args : Array Value) (w : World) : (callFunc 72 args).run Try.prog w = .ok (.enter 72 args) w := Try.call72 args w
theorem call_pithlaw09_rows_got (args : Array Value) (w : World) : (callFunc 73 args).run Try.prog w = .ok (.enter 73 args) w := Try.call73 args w
theorem call_rcenc_Encoder_widen (args : Array Value) (w : World) : (callFunc 74 args).run Try.prog w = .ok (.enter 74 args) w := Try.call74 args w
theorem call_rcenc_Encoder_shift (args : Array Value) (w : World) : (callFunc 75 args).run Try.prog w = .ok (.enter 75 args) w := Try.call75 args w
theorem call_prob_taken (args : Array Value) (w : World) : (callFunc 76 args).run Try.prog w = .ok (.enter 76 args) w := Try.call76 args w
theorem call_prob_Bound (args : Array Value) (w : World) : (callFunc 77 args).run Try.prog w = .ok (.enter 77 args) w := Try.call77 args w
theorem call_prob_Set_has (args : Array Value) (w : World) : (callFunc 78 args).run Try.prog w = .ok (.enter 78 args) w := Try.call78 args w
theorem call_pithref06_Set_At (args : Array Value) (w : World) : (callFunc 79 args).run Try.prog w = .ok (.enter 79 args) w := Try.call79 args w
theorem call_pithref07_Encoder_cut (args : Array Value) (w : World) : (callFunc 80 args).run Try.prog w = .ok (.enter 80 args) w := Try.call80 args w
theorem call_pithref06_Bound (args : Array Value) (w : World) : (callFunc 81 args).run Try.prog w = .ok (.enter 81 args) w := Try.call81 args w
theorem call_pithref06_Set_Turn (args : Array Value) (w : World) : (callFunc 82 args).run Try.prog w = .ok (.enter 82 args) w := Try.call82 args w
theorem call_pithref07_Encoder_adds (args : Array Value) (w : World) : (callFunc 83 args).run Try.prog w = .ok (.enter 83 args) w := Try.call83 args w
theorem call_pithref07_Encoder_widens (args : Array Value) (w : World) : (callFunc 84 args).run Try.prog w = .ok (.enter 84 args) w := Try.call84 args w
theorem call_pithlaw07_Held_written (args : Array Value) (w : World) : (callFunc 85 args).run Try.prog w = .ok (.enter 85 args) w := Try.call85 args w
theorem call_pithlaw07_Held_grown (args : Array Value) (w : World) : (callFunc 86 args).run Try.prog w = .ok (.enter 86 args) w := Try.call86 args w
theorem call_prob_Set_Reset (args : Array Value) (w : World) : (callFunc 87 args).run Try.prog w = .ok (.enter 87 args) w := Try.call87 args w
theorem call_pithref06_Set_Reset (args : Array Value) (w : World) : (callFunc 88 args).run Try.prog w = .ok (.enter 88 args) w := Try.call88 args w
theorem call_rcdec_Decoder_Direct_c1 (args : Array Value) (w : World) : (callFunc 89 args).run Try.prog w = .ok (.enter 89 args) w := Try.call89 args w
theorem call_rcdec_Decoder_back (args : Array Value) (w : World) : (callFunc 90 args).run Try.prog w = .ok (.enter 90 args) w := Try.call90 args w
theorem call_rcdec_Decoder_widen (args : Array Value) (w : World) : (callFunc 91 args).run Try.prog w = .ok (.enter 91 args) w := Try.call91 args w
theorem call_pithref08_Decoder_Fork (args : Array Value) (w : World) : (callFunc 92 args).run Try.prog w = .ok (.enter 92 args) w := Try.call92 args w
theorem call_pithref08_Decoder_widen (args : Array Value) (w : World) : (callFunc 93 args).run Try.prog w = .ok (.enter 93 args) w := Try.call93 args w
theorem call_rcdec_Decoder_Bit_c1 (args : Array Value) (w : World) : (callFunc 94 args).run Try.prog w = .ok (.enter 94 args) w := Try.call94 args w
theorem call_rcdec_Decoder_upper (args : Array Value) (w : World) : (callFunc 95 args).run Try.prog w = .ok (.enter 95 args) w := Try.call95 args w
theorem call_tree_cost (args : Array Value) (w : World) : (callFunc 96 args).run Try.prog w = .ok (.enter 96 args) w := Try.call96 args w
theorem call_tree_put (args : Array Value) (w : World) : (callFunc 97 args).run Try.prog w = .ok (.enter 97 args) w := Try.call97 args w
theorem call_pithlaw09_rows_of (args : Array Value) (w : World) : (callFunc 98 args).run Try.prog w = .ok (.enter 98 args) w := Try.call98 args w
theorem call_pithref09_Put (args : Array Value) (w : World) : (callFunc 99 args).run Try.prog w = .ok (.enter 99 args) w := Try.call99 args w
theorem call_pithref09_Cost (args : Array Value) (w : World) : (callFunc 100 args).run Try.prog w = .ok (.enter 100 args) w := Try.call100 args w
theorem call_tree_Get (args : Array Value) (w : World) : (callFunc 101 args).run Try.prog w = .ok (.enter 101 args) w := Try.call101 args w
theorem call_pithref09_Get (args : Array Value) (w : World) : (callFunc 102 args).run Try.prog w = .ok (.enter 102 args) w := Try.call102 args w
theorem call_tree_GetBack (args : Array Value) (w : World) : (callFunc 103 args).run Try.prog w = .ok (.enter 103 args) w := Try.call103 args w
theorem call_pithlaw09_bit (args : Array Value) (w : World) : (callFunc 104 args).run Try.prog w = .ok (.enter 104 args) w := Try.call104 args w
theorem call_pithref06_bound (args : Array Value) (w : World) : (callFunc 105 args).run Try.prog w = .ok (.enter 105 args) w := Try.call105 args w
theorem call_pithref06_Next (args : Array Value) (w : World) : (callFunc 106 args).run Try.prog w = .ok (.enter 106 args) w := Try.call106 args w
theorem call_tree_there (args : Array Value) (w : World) : (callFunc 107 args).run Try.prog w = .ok (.enter 107 args) w := Try.call107 args w
theorem call_tree_holds (args : Array Value) (w : World) : (callFunc 108 args).run Try.prog w = .ok (.enter 108 args) w := Try.call108 args w
theorem call_tree_down (args : Array Value) (w : World) : (callFunc 109 args).run Try.prog w = .ok (.enter 109 args) w := Try.call109 args w
theorem call_tree_cost_c1 (args : Array Value) (w : World) : (callFunc 110 args).run Try.prog w = .ok (.enter 110 args) w := Try.call110 args w
theorem call_tree_order (args : Array Value) (w : World) : (callFunc 111 args).run Try.prog w = .ok (.enter 111 args) w := Try.call111 args w
theorem call_prob_Cost (args : Array Value) (w : World) : (callFunc 112 args).run Try.prog w = .ok (.enter 112 args) w := Try.call112 args w
theorem call_tree_put_c1 (args : Array Value) (w : World) : (callFunc 113 args).run Try.prog w = .ok (.enter 113 args) w := Try.call113 args w
theorem call_pithref09_refused (args : Array Value) (w : World) : (callFunc 114 args).run Try.prog w = .ok (.enter 114 args) w := Try.call114 args w
theorem call_pithref09_Way (args : Array Value) (w : World) : (callFunc 115 args).run Try.prog w = .ok (.enter 115 args) w := Try.call115 args w
theorem call_pithref09_bits (args : Array Value) (w : World) : (callFunc 116 args).run Try.prog w = .ok (.enter 116 args) w := Try.call116 args w
theorem call_pithref06_Cost (args : Array Value) (w : World) : (callFunc 117 args).run Try.prog w = .ok (.enter 117 args) w := Try.call117 args w
theorem call_tree_get (args : Array Value) (w : World) : (callFunc 118 args).run Try.prog w = .ok (.enter 118 args) w := Try.call118 args w
theorem call_pithref09_There (args : Array Value) (w : World) : (callFunc 119 args).run Try.prog w = .ok (.enter 119 args) w := Try.call119 args w
theorem call_pithref09_two (args : Array Value) (w : World) : (callFunc 120 args).run Try.prog w = .ok (.enter 120 args) w := Try.call120 args w
theorem call_prob_costing (args : Array Value) (w : World) : (callFunc 121 args).run Try.prog w = .ok (.enter 121 args) w := Try.call121 args w
theorem call_pithref06_cost (args : Array Value) (w : World) : (callFunc 122 args).run Try.prog w = .ok (.enter 122 args) w := Try.call122 args w
theorem call_tree_get_c1 (args : Array Value) (w : World) : (callFunc 123 args).run Try.prog w = .ok (.enter 123 args) w := Try.call123 args w
attribute [local irreducible] pN oCall oCallV
theorem pc_pithlaw07_RcencDirect {args : List Value} (h : Calls Try.prog 3 args.toArray w (retP K)) : pN Try.prog (oCall 3 args) w K := pN_callQ (f := 3) (fun a w => call_pithlaw07_RcencDirect a w) h
theorem pc_pithlaw07_RcencOrder {args : List Value} (h : Calls Try.prog 4 args.toArray w (retP K)) : pN Try.prog (oCall 4 args) w K := pN_callQ (f := 4) (fun a w => call_pithlaw07_RcencOrder a w) h
theorem pc_pithlaw07_RcencTurns {args : List Value} (h : Calls Try.prog 5 args.toArray w (retP K)) : pN Try.prog (oCall 5 args) w K := pN_callQ (f := 5) (fun a w => call_pithlaw07_RcencTurns a w) h
theorem pc_pithlaw07_RcencPlays {args : List Value} (h : Calls Try.prog 6 args.toArray w (retP K)) : pN Try.prog (oCall 6 args) w K := pN_callQ (f := 6) (fun a w => call_pithlaw07_RcencPlays a w) h
theorem pc_pithlaw07_RcencAsked {args : List Value} (h : Calls Try.prog 7 args.toArray w (retP K)) : pN Try.prog (oCall 7 args) w K := pN_callQ (f := 7) (fun a w => call_pithlaw07_RcencAsked a w) h
theorem pc_pithlaw08_RcdecExact {args : List Value} (h : Calls Try.prog 8 args.toArray w (retP K)) : pN Try.prog (oCall 8 args) w K := pN_callQ (f := 8) (fun a w => call_pithlaw08_RcdecExact a w) h
theorem pc_pithlaw08_RcdecBegins {args : List Value} (h : Calls Try.prog 9 args.toArray w (retP K)) : pN Try.prog (oCall 9 args) w K := pN_callQ (f := 9) (fun a w => call_pithlaw08_RcdecBegins a w) h
theorem pc_pithlaw08_RcdecApart {args : List Value} (h : Calls Try.prog 10 args.toArray w (retP K)) : pN Try.prog (oCall 10 args) w K := pN_callQ (f := 10) (fun a w => call_pithlaw08_RcdecApart a w) h
theorem pc_pithlaw09_TreeCheaper {args : List Value} (h : Calls Try.prog 11 args.toArray w (retP K)) : pN Try.prog (oCall 11 args) w K := pN_callQ (f := 11) (fun a w => call_pithlaw09_TreeCheaper a w) h
theorem pc_pithlaw09_TreeTwoOrders {args : List Value} (h : Calls Try.prog 12 args.toArray w (retP K)) : pN Try.prog (oCall 12 args) w K := pN_callQ (f := 12) (fun a w => call_pithlaw09_TreeTwoOrders a w) h
theorem pc_pithlaw09_TreeCodes {args : List Value} (h : Calls Try.prog 13 args.toArray w (retP K)) : pN Try.prog (oCall 13 args) w K := pN_callQ (f := 13) (fun a w => call_pithlaw09_TreeCodes a w) h
theorem pc_pithlaw08_RcdecBack {args : List Value} (h : Calls Try.prog 14 args.toArray w (retP K)) : pN Try.prog (oCall 14 args) w K := pN_callQ (f := 14) (fun a w => call_pithlaw08_RcdecBack a w) h
theorem pc_pithlaw08_RcdecAgain {args : List Value} (h : Calls Try.prog 15 args.toArray w (retP K)) : pN Try.prog (oCall 15 args) w K := pN_callQ (f := 15) (fun a w => call_pithlaw08_RcdecAgain a w) h
theorem pc_pithlaw09_TreeReads {args : List Value} (h : Calls Try.prog 16 args.toArray w (retP K)) : pN Try.prog (oCall 16 args) w K := pN_callQ (f := 16) (fun a w => call_pithlaw09_TreeReads a w) h
theorem pc_pithlaw09_TreeBack {args : List Value} (h : Calls Try.prog 17 args.toArray w (retP K)) : pN Try.prog (oCall 17 args) w K := pN_callQ (f := 17) (fun a w => call_pithlaw09_TreeBack a w) h
theorem pc_rcenc_New {args : List Value} (h : Calls Try.prog 18 args.toArray w (retP K)) : pN Try.prog (oCall 18 args) w K := pN_callQ (f := 18) (fun a w => call_rcenc_New a w) h
theorem pc_rcenc_Encoder_Direct {args : List Value} (h : Calls Try.prog 19 args.toArray w (retP K)) : pN Try.prog (oCall 19 args) w K := pN_callQ (f := 19) (fun a w => call_rcenc_Encoder_Direct a w) h
theorem pc_rcenc_Encoder_Bytes {args : List Value} (h : Calls Try.prog 20 args.toArray w (retP K)) : pN Try.prog (oCall 20 args) w K := pN_callQ (f := 20) (fun a w => call_rcenc_Encoder_Bytes a w) h
theorem pc_rcenc_Encoder_Size {args : List Value} (h : Calls Try.prog 21 args.toArray w (retP K)) : pN Try.prog (oCall 21 args) w K := pN_callQ (f := 21) (fun a w => call_rcenc_Encoder_Size a w) h
theorem pc_pithlaw07_begun {args : List Value} (h : Calls Try.prog 22 args.toArray w (retP K)) : pN Try.prog (oCall 22 args) w K := pN_callQ (f := 22) (fun a w => call_pithlaw07_begun a w) h
theorem pc_pithlaw07_lays {args : List Value} (h : Calls Try.prog 23 args.toArray w (retP K)) : pN Try.prog (oCall 23 args) w K := pN_callQ (f := 23) (fun a w => call_pithlaw07_lays a w) h
theorem pc_pithlaw07_number {args : List Value} (h : Calls Try.prog 24 args.toArray w (retP K)) : pN Try.prog (oCall 24 args) w K := pN_callQ (f := 24) (fun a w => call_pithlaw07_number a w) h
theorem pc_prob_Next {args : List Value} (h : Calls Try.prog 25 args.toArray w (retP K)) : pN Try.prog (oCall 25 args) w K := pN_callQ (f := 25) (fun a w => call_prob_Next a w) h
theorem pc_pithlaw07_worth {args : List Value} (h : Calls Try.prog 26 args.toArray w (retP K)) : pN Try.prog (oCall 26 args) w K := pN_callQ (f := 26) (fun a w => call_pithlaw07_worth a w) h
theorem pc_rcenc_Encoder_Bit {args : List Value} (h : Calls Try.prog 27 args.toArray w (retP K)) : pN Try.prog (oCall 27 args) w K := pN_callQ (f := 27) (fun a w => call_rcenc_Encoder_Bit a w) h
theorem pc_prob_Set_At {args : List Value} (h : Calls Try.prog 28 args.toArray w (retP K)) : pN Try.prog (oCall 28 args) w K := pN_callQ (f := 28) (fun a w => call_prob_Set_At a w) h
theorem pc_pithlaw07_sets {args : List Value} (h : Calls Try.prog 29 args.toArray w (retP K)) : pN Try.prog (oCall 29 args) w K := pN_callQ (f := 29) (fun a w => call_pithlaw07_sets a w) h
theorem pc_pithref07_New {args : List Value} (h : Calls Try.prog 30 args.toArray w (retP K)) : pN Try.prog (oCall 30 args) w K := pN_callQ (f := 30) (fun a w => call_pithref07_New a w) h
theorem pc_pithref07_Encoder_Bit {args : List Value} (h : Calls Try.prog 31 args.toArray w (retP K)) : pN Try.prog (oCall 31 args) w K := pN_callQ (f := 31) (fun a w => call_pithref07_Encoder_Bit a w) h
theorem pc_pithref07_Encoder_Direct {args : List Value} (h : Calls Try.prog 32 args.toArray w (retP K)) : pN Try.prog (oCall 32 args) w K := pN_callQ (f := 32) (fun a w => call_pithref07_Encoder_Direct a w) h
theorem pc_pithref07_Encoder_Size {args : List Value} (h : Calls Try.prog 33 args.toArray w (retP K)) : pN Try.prog (oCall 33 args) w K := pN_callQ (f := 33) (fun a w => call_pithref07_Encoder_Size a w) h
theorem pc_pithref07_Encoder_Bytes {args : List Value} (h : Calls Try.prog 34 args.toArray w (retP K)) : pN Try.prog (oCall 34 args) w K := pN_callQ (f := 34) (fun a w => call_pithref07_Encoder_Bytes a w) h
theorem pc_pithlaw07_hold {args : List Value} (h : Calls Try.prog 35 args.toArray w (retP K)) : pN Try.prog (oCall 35 args) w K := pN_callQ (f := 35) (fun a w => call_pithlaw07_hold a w) h
theorem pc_rcenc_Encoder_Fork {args : List Value} (h : Calls Try.prog 36 args.toArray w (retP K)) : pN Try.prog (oCall 36 args) w K := pN_callQ (f := 36) (fun a w => call_rcenc_Encoder_Fork a w) h
theorem pc_pithref07_Encoder_Fork {args : List Value} (h : Calls Try.prog 37 args.toArray w (retP K)) : pN Try.prog (oCall 37 args) w K := pN_callQ (f := 37) (fun a w => call_pithref07_Encoder_Fork a w) h
theorem pc_pithlaw07_Sets_alike {args : List Value} (h : Calls Try.prog 38 args.toArray w (retP K)) : pN Try.prog (oCall 38 args) w K := pN_callQ (f := 38) (fun a w => call_pithlaw07_Sets_alike a w) h
theorem pc_pithlaw07_held {args : List Value} (h : Calls Try.prog 39 args.toArray w (retP K)) : pN Try.prog (oCall 39 args) w K := pN_callQ (f := 39) (fun a w => call_pithlaw07_held a w) h
theorem pc_prob_Set_Fork {args : List Value} (h : Calls Try.prog 40 args.toArray w (retP K)) : pN Try.prog (oCall 40 args) w K := pN_callQ (f := 40) (fun a w => call_prob_Set_Fork a w) h
theorem pc_pithlaw08_known {args : List Value} (h : Calls Try.prog 41 args.toArray w (retP K)) : pN Try.prog (oCall 41 args) w K := pN_callQ (f := 41) (fun a w => call_pithlaw08_known a w) h
theorem pc_rcdec_New {args : List Value} (h : Calls Try.prog 42 args.toArray w (retP K)) : pN Try.prog (oCall 42 args) w K := pN_callQ (f := 42) (fun a w => call_rcdec_New a w) h
theorem pc_pithref08_New {args : List Value} (h : Calls Try.prog 43 args.toArray w (retP K)) : pN Try.prog (oCall 43 args) w K := pN_callQ (f := 43) (fun a w => call_pithref08_New a w) h
theorem pc_pithlaw08_num {args : List Value} (h : Calls Try.prog 44 args.toArray w (retP K)) : pN Try.prog (oCall 44 args) w K := pN_callQ (f := 44) (fun a w => call_pithlaw08_num a w) h
theorem pc_prob_New {args : List Value} (h : Calls Try.prog 45 args.toArray w (retP K)) : pN Try.prog (oCall 45 args) w K := pN_callQ (f := 45) (fun a w => call_prob_New a w) h
theorem pc_pithref06_New {args : List Value} (h : Calls Try.prog 46 args.toArray w (retP K)) : pN Try.prog (oCall 46 args) w K := pN_callQ (f := 46) (fun a w => call_pithref06_New a w) h
theorem pc_rcdec_Decoder_Direct {args : List Value} (h : Calls Try.prog 47 args.toArray w (retP K)) : pN Try.prog (oCall 47 args) w K := pN_callQ (f := 47) (fun a w => call_rcdec_Decoder_Direct a w) h
theorem pc_pithref08_Decoder_Direct {args : List Value} (h : Calls Try.prog 48 args.toArray w (retP K)) : pN Try.prog (oCall 48 args) w K := pN_callQ (f := 48) (fun a w => call_pithref08_Decoder_Direct a w) h
theorem pc_rcdec_Decoder_Bit {args : List Value} (h : Calls Try.prog 49 args.toArray w (retP K)) : pN Try.prog (oCall 49 args) w K := pN_callQ (f := 49) (fun a w => call_rcdec_Decoder_Bit a w) h
theorem pc_pithref08_Decoder_Bit {args : List Value} (h : Calls Try.prog 50 args.toArray w (retP K)) : pN Try.prog (oCall 50 args) w K := pN_callQ (f := 50) (fun a w => call_pithref08_Decoder_Bit a w) h
theorem pc_rcdec_Decoder_Used {args : List Value} (h : Calls Try.prog 51 args.toArray w (retP K)) : pN Try.prog (oCall 51 args) w K := pN_callQ (f := 51) (fun a w => call_rcdec_Decoder_Used a w) h
theorem pc_pithref08_Decoder_Used {args : List Value} (h : Calls Try.prog 52 args.toArray w (retP K)) : pN Try.prog (oCall 52 args) w K := pN_callQ (f := 52) (fun a w => call_pithref08_Decoder_Used a w) h
theorem pc_rcdec_Decoder_Done {args : List Value} (h : Calls Try.prog 53 args.toArray w (retP K)) : pN Try.prog (oCall 53 args) w K := pN_callQ (f := 53) (fun a w => call_rcdec_Decoder_Done a w) h
theorem pc_pithref08_Decoder_Done {args : List Value} (h : Calls Try.prog 54 args.toArray w (retP K)) : pN Try.prog (oCall 54 args) w K := pN_callQ (f := 54) (fun a w => call_pithref08_Decoder_Done a w) h
theorem pc_pithlaw08_alike {args : List Value} (h : Calls Try.prog 55 args.toArray w (retP K)) : pN Try.prog (oCall 55 args) w K := pN_callQ (f := 55) (fun a w => call_pithlaw08_alike a w) h
theorem pc_pithlaw08_answered {args : List Value} (h : Calls Try.prog 56 args.toArray w (retP K)) : pN Try.prog (oCall 56 args) w K := pN_callQ (f := 56) (fun a w => call_pithlaw08_answered a w) h
theorem pc_pithlaw09_fixed {args : List Value} (h : Calls Try.prog 57 args.toArray w (retP K)) : pN Try.prog (oCall 57 args) w K := pN_callQ (f := 57) (fun a w => call_pithlaw09_fixed a w) h
theorem pc_tree_Cost {args : List Value} (h : Calls Try.prog 58 args.toArray w (retP K)) : pN Try.prog (oCall 58 args) w K := pN_callQ (f := 58) (fun a w => call_tree_Cost a w) h
theorem pc_tree_CostBack {args : List Value} (h : Calls Try.prog 59 args.toArray w (retP K)) : pN Try.prog (oCall 59 args) w K := pN_callQ (f := 59) (fun a w => call_tree_CostBack a w) h
theorem pc_tree_PutBack {args : List Value} (h : Calls Try.prog 60 args.toArray w (retP K)) : pN Try.prog (oCall 60 args) w K := pN_callQ (f := 60) (fun a w => call_tree_PutBack a w) h
theorem pc_tree_Put {args : List Value} (h : Calls Try.prog 61 args.toArray w (retP K)) : pN Try.prog (oCall 61 args) w K := pN_callQ (f := 61) (fun a w => call_tree_Put a w) h
theorem pc_prob_Set_Turn {args : List Value} (h : Calls Try.prog 62 args.toArray w (retP K)) : pN Try.prog (oCall 62 args) w K := pN_callQ (f := 62) (fun a w => call_prob_Set_Turn a w) h
theorem pc_prob_Set_Len {args : List Value} (h : Calls Try.prog 63 args.toArray w (retP K)) : pN Try.prog (oCall 63 args) w K := pN_callQ (f := 63) (fun a w => call_prob_Set_Len a w) h
theorem pc_pithlaw09_turned {args : List Value} (h : Calls Try.prog 64 args.toArray w (retP K)) : pN Try.prog (oCall 64 args) w K := pN_callQ (f := 64) (fun a w => call_pithlaw09_turned a w) h
theorem pc_pithlaw09_alike {args : List Value} (h : Calls Try.prog 65 args.toArray w (retP K)) : pN Try.prog (oCall 65 args) w K := pN_callQ (f := 65) (fun a w => call_pithlaw09_alike a w) h
theorem pc_pithlaw09_made {args : List Value} (h : Calls Try.prog 66 args.toArray w (retP K)) : pN Try.prog (oCall 66 args) w K := pN_callQ (f := 66) (fun a w => call_pithlaw09_made a w) h
theorem pc_pithlaw09_rows_codes {args : List Value} (h : Calls Try.prog 67 args.toArray w (retP K)) : pN Try.prog (oCall 67 args) w K := pN_callQ (f := 67) (fun a w => call_pithlaw09_rows_codes a w) h
theorem pc_pithlaw09_rows_same {args : List Value} (h : Calls Try.prog 68 args.toArray w (retP K)) : pN Try.prog (oCall 68 args) w K := pN_callQ (f := 68) (fun a w => call_pithlaw09_rows_same a w) h
theorem pc_pithlaw08_encoded {args : List Value} (h : Calls Try.prog 69 args.toArray w (retP K)) : pN Try.prog (oCall 69 args) w K := pN_callQ (f := 69) (fun a w => call_pithlaw08_encoded a w) h
theorem pc_pithlaw08_low {args : List Value} (h : Calls Try.prog 70 args.toArray w (retP K)) : pN Try.prog (oCall 70 args) w K := pN_callQ (f := 70) (fun a w => call_pithlaw08_low a w) h
theorem pc_pithlaw09_rows_reads {args : List Value} (h : Calls Try.prog 71 args.toArray w (retP K)) : pN Try.prog (oCall 71 args) w K := pN_callQ (f := 71) (fun a w => call_pithlaw09_rows_reads a w) h
theorem pc_pithlaw09_rows_given {args : List Value} (h : Calls Try.prog 72 args.toArray w (retP K)) : pN Try.prog (oCall 72 args) w K := pN_callQ (f := 72) (fun a w => call_pithlaw09_rows_given a w) h
theorem pc_pithlaw09_rows_got {args : List Value} (h : Calls Try.prog 73 args.toArray w (retP K)) : pN Try.prog (oCall 73 args) w K := pN_callQ (f := 73) (fun a w => call_pithlaw09_rows_got a w) h
theorem pc_rcenc_Encoder_widen {args : List Value} (h : Calls Try.prog 74 args.toArray w (retP K)) : pN Try.prog (oCall 74 args) w K := pN_callQ (f := 74) (fun a w => call_rcenc_Encoder_widen a w) h
theorem pc_rcenc_Encoder_shift {args : List Value} (h : Calls Try.prog 75 args.toArray w (retP K)) : pN Try.prog (oCall 75 args) w K := pN_callQ (f := 75) (fun a w => call_rcenc_Encoder_shift a w) h
theorem pc_prob_taken {args : List Value} (h : Calls Try.prog 76 args.toArray w (retP K)) : pN Try.prog (oCall 76 args) w K := pN_callQ (f := 76) (fun a w => call_prob_taken a w) h
theorem pc_prob_Bound {args : List Value} (h : Calls Try.prog 77 args.toArray w (retP K)) : pN Try.prog (oCall 77 args) w K := pN_callQ (f := 77) (fun a w => call_prob_Bound a w) h
theorem pc_prob_Set_has {args : List Value} (h : Calls Try.prog 78 args.toArray w (retP K)) : pN Try.prog (oCall 78 args) w K := pN_callQ (f := 78) (fun a w => call_prob_Set_has a w) h
theorem pc_pithref06_Set_At {args : List Value} (h : Calls Try.prog 79 args.toArray w (retP K)) : pN Try.prog (oCall 79 args) w K := pN_callQ (f := 79) (fun a w => call_pithref06_Set_At a w) h
theorem pc_pithref07_Encoder_cut {args : List Value} (h : Calls Try.prog 80 args.toArray w (retP K)) : pN Try.prog (oCall 80 args) w K := pN_callQ (f := 80) (fun a w => call_pithref07_Encoder_cut a w) h
theorem pc_pithref06_Bound {args : List Value} (h : Calls Try.prog 81 args.toArray w (retP K)) : pN Try.prog (oCall 81 args) w K := pN_callQ (f := 81) (fun a w => call_pithref06_Bound a w) h
theorem pc_pithref06_Set_Turn {args : List Value} (h : Calls Try.prog 82 args.toArray w (retP K)) : pN Try.prog (oCall 82 args) w K := pN_callQ (f := 82) (fun a w => call_pithref06_Set_Turn a w) h
theorem pc_pithref07_Encoder_adds {args : List Value} (h : Calls Try.prog 83 args.toArray w (retP K)) : pN Try.prog (oCall 83 args) w K := pN_callQ (f := 83) (fun a w => call_pithref07_Encoder_adds a w) h
theorem pc_pithref07_Encoder_widens {args : List Value} (h : Calls Try.prog 84 args.toArray w (retP K)) : pN Try.prog (oCall 84 args) w K := pN_callQ (f := 84) (fun a w => call_pithref07_Encoder_widens a w) h
theorem pc_pithlaw07_Held_written {args : List Value} (h : Calls Try.prog 85 args.toArray w (retP K)) : pN Try.prog (oCall 85 args) w K := pN_callQ (f := 85) (fun a w => call_pithlaw07_Held_written a w) h
theorem pc_pithlaw07_Held_grown {args : List Value} (h : Calls Try.prog 86 args.toArray w (retP K)) : pN Try.prog (oCall 86 args) w K := pN_callQ (f := 86) (fun a w => call_pithlaw07_Held_grown a w) h
theorem pc_prob_Set_Reset {args : List Value} (h : Calls Try.prog 87 args.toArray w (retP K)) : pN Try.prog (oCall 87 args) w K := pN_callQ (f := 87) (fun a w => call_prob_Set_Reset a w) h
theorem pc_pithref06_Set_Reset {args : List Value} (h : Calls Try.prog 88 args.toArray w (retP K)) : pN Try.prog (oCall 88 args) w K := pN_callQ (f := 88) (fun a w => call_pithref06_Set_Reset a w) h
theorem pc_rcdec_Decoder_Direct_c1 {args : List Value} (h : Calls Try.prog 89 args.toArray w (retP K)) : pN Try.prog (oCall 89 args) w K := pN_callQ (f := 89) (fun a w => call_rcdec_Decoder_Direct_c1 a w) h
theorem pv_rcdec_Decoder_Direct_c1 {cap args : List Value} (h : Calls Try.prog 89 (args ++ cap).toArray w (retP K)) : pN Try.prog (oCallV (.func (.func 89) [].toArray cap.toArray) args) w K := pN_callV (f := 89) (fun a w => call_rcdec_Decoder_Direct_c1 a w) h
theorem pc_rcdec_Decoder_back {args : List Value} (h : Calls Try.prog 90 args.toArray w (retP K)) : pN Try.prog (oCall 90 args) w K := pN_callQ (f := 90) (fun a w => call_rcdec_Decoder_back a w) h
theorem pc_rcdec_Decoder_widen {args : List Value} (h : Calls Try.prog 91 args.toArray w (retP K)) : pN Try.prog (oCall 91 args) w K := pN_callQ (f := 91) (fun a w => call_rcdec_Decoder_widen a w) h
theorem pc_pithref08_Decoder_Fork {args : List Value} (h : Calls Try.prog 92 args.toArray w (retP K)) : pN Try.prog (oCall 92 args) w K := pN_callQ (f := 92) (fun a w => call_pithref08_Decoder_Fork a w) h
theorem pc_pithref08_Decoder_widen {args : List Value} (h : Calls Try.prog 93 args.toArray w (retP K)) : pN Try.prog (oCall 93 args) w K := pN_callQ (f := 93) (fun a w => call_pithref08_Decoder_widen a w) h
theorem pc_rcdec_Decoder_Bit_c1 {args : List Value} (h : Calls Try.prog 94 args.toArray w (retP K)) : pN Try.prog (oCall 94 args) w K := pN_callQ (f := 94) (fun a w => call_rcdec_Decoder_Bit_c1 a w) h
theorem pv_rcdec_Decoder_Bit_c1 {cap args : List Value} (h : Calls Try.prog 94 (args ++ cap).toArray w (retP K)) : pN Try.prog (oCallV (.func (.func 94) [].toArray cap.toArray) args) w K := pN_callV (f := 94) (fun a w => call_rcdec_Decoder_Bit_c1 a w) h
theorem pc_rcdec_Decoder_upper {args : List Value} (h : Calls Try.prog 95 args.toArray w (retP K)) : pN Try.prog (oCall 95 args) w K := pN_callQ (f := 95) (fun a w => call_rcdec_Decoder_upper a w) h
theorem pc_tree_cost {args : List Value} (h : Calls Try.prog 96 args.toArray w (retP K)) : pN Try.prog (oCall 96 args) w K := pN_callQ (f := 96) (fun a w => call_tree_cost a w) h
theorem pc_tree_put {args : List Value} (h : Calls Try.prog 97 args.toArray w (retP K)) : pN Try.prog (oCall 97 args) w K := pN_callQ (f := 97) (fun a w => call_tree_put a w) h
theorem pc_pithlaw09_rows_of {args : List Value} (h : Calls Try.prog 98 args.toArray w (retP K)) : pN Try.prog (oCall 98 args) w K := pN_callQ (f := 98) (fun a w => call_pithlaw09_rows_of a w) h
theorem pc_pithref09_Put {args : List Value} (h : Calls Try.prog 99 args.toArray w (retP K)) : pN Try.prog (oCall 99 args) w K := pN_callQ (f := 99) (fun a w => call_pithref09_Put a w) h
theorem pc_pithref09_Cost {args : List Value} (h : Calls Try.prog 100 args.toArray w (retP K)) : pN Try.prog (oCall 100 args) w K := pN_callQ (f := 100) (fun a w => call_pithref09_Cost a w) h
theorem pc_tree_Get {args : List Value} (h : Calls Try.prog 101 args.toArray w (retP K)) : pN Try.prog (oCall 101 args) w K := pN_callQ (f := 101) (fun a w => call_tree_Get a w) h
theorem pc_pithref09_Get {args : List Value} (h : Calls Try.prog 102 args.toArray w (retP K)) : pN Try.prog (oCall 102 args) w K := pN_callQ (f := 102) (fun a w => call_pithref09_Get a w) h
theorem pc_tree_GetBack {args : List Value} (h : Calls Try.prog 103 args.toArray w (retP K)) : pN Try.prog (oCall 103 args) w K := pN_callQ (f := 103) (fun a w => call_tree_GetBack a w) h
theorem pc_pithlaw09_bit {args : List Value} (h : Calls Try.prog 104 args.toArray w (retP K)) : pN Try.prog (oCall 104 args) w K := pN_callQ (f := 104) (fun a w => call_pithlaw09_bit a w) h
theorem pc_pithref06_bound {args : List Value} (h : Calls Try.prog 105 args.toArray w (retP K)) : pN Try.prog (oCall 105 args) w K := pN_callQ (f := 105) (fun a w => call_pithref06_bound a w) h
theorem pc_pithref06_Next {args : List Value} (h : Calls Try.prog 106 args.toArray w (retP K)) : pN Try.prog (oCall 106 args) w K := pN_callQ (f := 106) (fun a w => call_pithref06_Next a w) h
theorem pc_tree_there {args : List Value} (h : Calls Try.prog 107 args.toArray w (retP K)) : pN Try.prog (oCall 107 args) w K := pN_callQ (f := 107) (fun a w => call_tree_there a w) h
theorem pc_tree_holds {args : List Value} (h : Calls Try.prog 108 args.toArray w (retP K)) : pN Try.prog (oCall 108 args) w K := pN_callQ (f := 108) (fun a w => call_tree_holds a w) h
theorem pc_tree_down {args : List Value} (h : Calls Try.prog 109 args.toArray w (retP K)) : pN Try.prog (oCall 109 args) w K := pN_callQ (f := 109) (fun a w => call_tree_down a w) h
theorem pc_tree_cost_c1 {args : List Value} (h : Calls Try.prog 110 args.toArray w (retP K)) : pN Try.prog (oCall 110 args) w K := pN_callQ (f := 110) (fun a w => call_tree_cost_c1 a w) h
theorem pv_tree_cost_c1 {cap args : List Value} (h : Calls Try.prog 110 (args ++ cap).toArray w (retP K)) : pN Try.prog (oCallV (.func (.func 110) [].toArray cap.toArray) args) w K := pN_callV (f := 110) (fun a w => call_tree_cost_c1 a w) h
theorem pc_tree_order {args : List Value} (h : Calls Try.prog 111 args.toArray w (retP K)) : pN Try.prog (oCall 111 args) w K := pN_callQ (f := 111) (fun a w => call_tree_order a w) h
theorem pc_prob_Cost {args : List Value} (h : Calls Try.prog 112 args.toArray w (retP K)) : pN Try.prog (oCall 112 args) w K := pN_callQ (f := 112) (fun a w => call_prob_Cost a w) h
theorem pc_tree_put_c1 {args : List Value} (h : Calls Try.prog 113 args.toArray w (retP K)) : pN Try.prog (oCall 113 args) w K := pN_callQ (f := 113) (fun a w => call_tree_put_c1 a w) h
theorem pv_tree_put_c1 {cap args : List Value} (h : Calls Try.prog 113 (args ++ cap).toArray w (retP K)) : pN Try.prog (oCallV (.func (.func 113) [].toArray cap.toArray) args) w K := pN_callV (f := 113) (fun a w => call_tree_put_c1 a w) h
theorem pc_pithref09_refused {args : List Value} (h : Calls Try.prog 114 args.toArray w (retP K)) : pN Try.prog (oCall 114 args) w K := pN_callQ (f := 114) (fun a w => call_pithref09_refused a w) h
theorem pc_pithref09_Way {args : List Value} (h : Calls Try.prog 115 args.toArray w (retP K)) : pN Try.prog (oCall 115 args) w K := pN_callQ (f := 115) (fun a w => call_pithref09_Way a w) h
theorem pc_pithref09_bits {args : List Value} (h : Calls Try.prog 116 args.toArray w (retP K)) : pN Try.prog (oCall 116 args) w K := pN_callQ (f := 116) (fun a w => call_pithref09_bits a w) h
theorem pc_pithref06_Cost {args : List Value} (h : Calls Try.prog 117 args.toArray w (retP K)) : pN Try.prog (oCall 117 args) w K := pN_callQ (f := 117) (fun a w => call_pithref06_Cost a w) h
theorem pc_tree_get {args : List Value} (h : Calls Try.prog 118 args.toArray w (retP K)) : pN Try.prog (oCall 118 args) w K := pN_callQ (f := 118) (fun a w => call_tree_get a w) h
theorem pc_pithref09_There {args : List Value} (h : Calls Try.prog 119 args.toArray w (retP K)) : pN Try.prog (oCall 119 args) w K := pN_callQ (f := 119) (fun a w => call_pithref09_There a w) h
theorem pc_pithref09_two {args : List Value} (h : Calls Try.prog 120 args.toArray w (retP K)) : pN Try.prog (oCall 120 args) w K := pN_callQ (f := 120) (fun a w => call_pithref09_two a w) h
theorem pc_prob_costing {args : List Value} (h : Calls Try.prog 121 args.toArray w (retP K)) : pN Try.prog (oCall 121 args) w K := pN_callQ (f := 121) (fun a w => call_prob_costing a w) h
theorem pc_pithref06_cost {args : List Value} (h : Calls Try.prog 122 args.toArray w (retP K)) : pN Try.prog (oCall 122 args) w K := pN_callQ (f := 122) (fun a w => call_pithref06_cost a w) h
theorem pc_tree_get_c1 {args : List Value} (h : Calls Try.prog 123 args.toArray w (retP K)) : pN Try.prog (oCall 123 args) w K := pN_callQ (f := 123) (fun a w => call_tree_get_c1 a w) h
theorem pv_tree_get_c1 {cap args : List Value} (h : Calls Try.prog 123 (args ++ cap).toArray w (retP K)) : pN Try.prog (oCallV (.func (.func 123) [].toArray cap.toArray) args) w K := pN_callV (f := 123) (fun a w => call_tree_get_c1 a w) h
end

attribute [go_sem] pN_conv_int_uint8 pA_conv_int_uint8 pL_conv_int_uint8 pN_conv_int_uint32 pA_conv_int_uint32 pL_conv_int_uint32 pN_conv_uint8_int pA_conv_uint8_int pL_conv_uint8_int pN_conv_uint8_uint32 pA_conv_uint8_uint32 pL_conv_uint8_uint32 pN_conv_uint8_uint64 pA_conv_uint8_uint64 pL_conv_uint8_uint64 pN_conv_uint32_int pA_conv_uint32_int pL_conv_uint32_int pN_conv_uint32_uint64 pA_conv_uint32_uint64 pL_conv_uint32_uint64 pN_conv_uint64_uint8 pA_conv_uint64_uint8 pL_conv_uint64_uint8 pN_len_sl_uint32 pA_len_sl_uint32 pN_len_sl_int pA_len_sl_int pN_len_sl_uint8 pA_len_sl_uint8 pN_len_sl_pithlaw07_Bit pA_len_sl_pithlaw07_Bit pN_len_sl_pithlaw07_Op pA_len_sl_pithlaw07_Op pN_len_sl_pithlaw07_Pair pA_len_sl_pithlaw07_Pair pN_len_sl_pithlaw07_Held pA_len_sl_pithlaw07_Held pN_len_sl_pithlaw08_Ask pA_len_sl_pithlaw08_Ask pN_len_sl_bool pA_len_sl_bool pN_len_sl_pithlaw09_Op pA_len_sl_pithlaw09_Op pN_len_sl_sl_uint8 pA_len_sl_sl_uint8 pN_len_sl_p_prob_Set pA_len_sl_p_prob_Set pN_len_sl_pithref09_Step pA_len_sl_pithref09_Step pN_aidx_arr4_int pA_aidx_arr4_int pN_aidx_arr2_p_prob_Set pA_aidx_arr2_p_prob_Set pN_aidx_arr2_p_pithref06_Set pA_aidx_arr2_p_pithref06_Set pN_eql_p_rcenc_Encoder pA_eql_p_rcenc_Encoder pN_neq_p_rcenc_Encoder pA_neq_p_rcenc_Encoder pN_eql_p_prob_Set pA_eql_p_prob_Set pN_neq_p_prob_Set pA_neq_p_prob_Set pN_eql_p_rcdec_Decoder pA_eql_p_rcdec_Decoder pN_neq_p_rcdec_Decoder pA_neq_p_rcdec_Decoder pN_eql_p_pithref08_Decoder pA_eql_p_pithref08_Decoder pN_neq_p_pithref08_Decoder pA_neq_p_pithref08_Decoder pN_eqlb_bool pA_eqlb_bool pN_neqb_bool pA_neqb_bool pN_fld_pithlaw07_Bit_I pA_fld_pithlaw07_Bit_I pN_fld_pithlaw07_Bit_One pA_fld_pithlaw07_Bit_One pN_fld_pithlaw07_Sets_P pA_fld_pithlaw07_Sets_P pN_fld_pithlaw07_Sets_R pA_fld_pithlaw07_Sets_R pN_fld_pithlaw07_Pair_E pA_fld_pithlaw07_Pair_E pN_fld_pithlaw07_Pair_R pA_fld_pithlaw07_Pair_R pN_fld_pithlaw07_Op_Kind pA_fld_pithlaw07_Op_Kind pN_fld_pithlaw07_Op_E pA_fld_pithlaw07_Op_E pN_fld_pithlaw07_Op_S pA_fld_pithlaw07_Op_S pN_fld_pithlaw07_Op_I pA_fld_pithlaw07_Op_I pN_fld_pithlaw07_Op_Bit pA_fld_pithlaw07_Op_Bit pN_fld_pithlaw07_Op_V pA_fld_pithlaw07_Op_V pN_fld_pithlaw07_Op_N pA_fld_pithlaw07_Op_N pN_fld_pithlaw07_Held_B pA_fld_pithlaw07_Held_B pN_fld_pithlaw07_Held_N pA_fld_pithlaw07_Held_N pN_fld_pithlaw07_Held_Mark pA_fld_pithlaw07_Held_Mark pN_fld_pithlaw07_Held_Want pA_fld_pithlaw07_Held_Want pN_fld_pithlaw07_Held_Kept pA_fld_pithlaw07_Held_Kept pN_fld_pithlaw08_Ask_Direct pA_fld_pithlaw08_Ask_Direct pN_fld_pithlaw08_Ask_I pA_fld_pithlaw08_Ask_I pN_fld_pithlaw08_Ask_N pA_fld_pithlaw08_Ask_N pN_fld_pithlaw08_Ask_V pA_fld_pithlaw08_Ask_V pN_fld_pithlaw08_Plan_N pA_fld_pithlaw08_Plan_N pN_fld_pithlaw08_Plan_Asks pA_fld_pithlaw08_Plan_Asks pN_fld_pithlaw09_Op_Kind pA_fld_pithlaw09_Op_Kind pN_fld_pithlaw09_Op_Row pA_fld_pithlaw09_Op_Row pN_fld_pithlaw09_Op_At pA_fld_pithlaw09_Op_At pN_fld_pithlaw09_Op_N pA_fld_pithlaw09_Op_N pN_fld_pithlaw09_Op_V pA_fld_pithlaw09_Op_V pN_fld_pithlaw09_rows_S pA_fld_pithlaw09_rows_S pN_fld_pithlaw09_rows_R pA_fld_pithlaw09_rows_R pN_fld_rcenc_Encoder_low pA_fld_rcenc_Encoder_low pN_fld_rcenc_Encoder_rng pA_fld_rcenc_Encoder_rng pN_fld_rcenc_Encoder_held pA_fld_rcenc_Encoder_held pN_fld_rcenc_Encoder_wait pA_fld_rcenc_Encoder_wait pN_fld_rcenc_Encoder_out pA_fld_rcenc_Encoder_out pN_fld_prob_Set_p pA_fld_prob_Set_p pN_fld_pithref07_Encoder_L pA_fld_pithref07_Encoder_L pN_fld_pithref07_Encoder_R pA_fld_pithref07_Encoder_R pN_fld_pithref07_Encoder_Shifts pA_fld_pithref07_Encoder_Shifts pN_fld_pithref06_Set_N pA_fld_pithref06_Set_N pN_fld_pithref06_Set_P pA_fld_pithref06_Set_P pN_fld_rcdec_place_read pA_fld_rcdec_place_read pN_fld_rcdec_place_rng pA_fld_rcdec_place_rng pN_fld_rcdec_place_now pA_fld_rcdec_place_now pN_fld_rcdec_Decoder_b pA_fld_rcdec_Decoder_b pN_fld_rcdec_Decoder_place pA_fld_rcdec_Decoder_place pN_fld_pithref08_Decoder_B pA_fld_pithref08_Decoder_B pN_fld_pithref08_Decoder_Read pA_fld_pithref08_Decoder_Read pN_fld_pithref08_Decoder_R pA_fld_pithref08_Decoder_R pN_fld_pithref08_Decoder_C pA_fld_pithref08_Decoder_C pN_fld_pithref09_Step_At pA_fld_pithref09_Step_At pN_fld_pithref09_Step_Bit pA_fld_pithref09_Step_Bit

end Go.Proofs.Ytoejaggkedlfmaa
