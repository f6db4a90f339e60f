/-
  The fields of a header: how each is written; a header.
-/
import Derived.Test.YteeepkimnpabiaaDoorTarW
namespace Go.Proofs.YteeepkimnpabiaaDoor
open Go
set_option linter.unusedSimpArgs false
set_option linter.unnecessarySimpa false
set_option linter.unusedSectionVars false
set_option linter.unusedVariables false

abbrev Fld := Nat × Nat × Option Nat × Option Nat
def fnV : Option Nat → Value
  | some g => .func (.func g) #[] #[]
  | none => .nilFunc
theorem fnV_one (o : Option Nat) : (fnV o).oneCell' = true := by cases o <;> rfl
def cdF : Cd Fld := { e := 73, size := 4, bytes := 32, zero := (0, 0, none, none), enc := fun x => [.int .i64 (x.1 : Nat), .int .i64 (x.2.1 : Nat), fnV x.2.2.1, fnV x.2.2.2], len := fun _ => rfl, one := by intro b u hu; simp only [List.mem_cons, List.not_mem_nil, or_false] at hu; rcases hu with rfl | rfl | rfl | rfl <;> first | rfl | exact fnV_one _ }
instance btF : Bt cdF 32 := ⟨rfl⟩
instance rowF : Row Tryd.prog 69 Fld cdF := ⟨⟨(.agg #[(.int .i64 0), (.int .i64 0), .nilFunc, .nilFunc]), ⟨Tryd.underlying69, info_parts (by kernel_rfl), rfl, by decide⟩, rfl⟩, by decide⟩

/-- The functions that write. -/
def wf : Nat → Nat
  | 0 => 46 | 1 => 49 | 2 => 52 | 3 => 52 | 4 => 53 | 5 => 55 | 6 => 57 | 7 => 59 | 8 => 61 | 9 => 52 | 10 => 52 | _ => 62
/-- The functions that read. -/
def rf : Nat → Option Nat
  | 0 => some 47 | 1 => some 50 | 4 => some 54 | 5 => some 56 | 6 => some 58 | 7 => some 60 | 11 => some 63 | _ => none
def fld (k : Nat) : Fld := (A.fAt k, A.fN k, some (wf k), rf k)
def flds : List Fld := (List.range 12).map fld
theorem flds_at (k : Nat) (h : k < 12) : flds[k]? = some (fld k) := by simp [flds, h]

theorem run_bF1 (a n : Int) (f g : Nat) (w : World) : (oBuild 73 [(0, .int .i64 a), (1, .int .i64 n), (2, .func (.func f) #[] #[]), (3, .func (.func g) #[] #[])]).run Tryd.prog w = .ok (.value (.agg #[.int .i64 a, .int .i64 n, .func (.func f) #[] #[], .func (.func g) #[] #[]])) w := by kernel_rfl
theorem run_bF0 (a n : Int) (f : Nat) (w : World) : (oBuild 73 [(0, .int .i64 a), (1, .int .i64 n), (2, .func (.func f) #[] #[]), (3, .nilFunc)]).run Tryd.prog w = .ok (.value (.agg #[.int .i64 a, .int .i64 n, .func (.func f) #[] #[], .nilFunc])) w := by kernel_rfl
theorem pN_bF1 [Pan] {w : World} {K : Value → World → Prop} {a n : Int} {f g : Nat} (hk : K (.agg #[.int .i64 a, .int .i64 n, .func (.func f) #[] #[], .func (.func g) #[] #[]]) w) : pN Tryd.prog (oBuild 73 [(0, .int .i64 a), (1, .int .i64 n), (2, .func (.func f) #[] #[]), (3, .func (.func g) #[] #[])]) w K := by rw [pN_def, run_bF1, rN_value]; exact hk
theorem pN_bF0 [Pan] {w : World} {K : Value → World → Prop} {a n : Int} {f : Nat} (hk : K (.agg #[.int .i64 a, .int .i64 n, .func (.func f) #[] #[], .nilFunc]) w) : pN Tryd.prog (oBuild 73 [(0, .int .i64 a), (1, .int .i64 n), (2, .func (.func f) #[] #[]), (3, .nilFunc)]) w K := by rw [pN_def, run_bF0, rN_value]; exact hk
theorem sumField_len (l : List UInt8) : (A.sumField l).length = 8 := by simp [A.sumField, A.oct_len]
theorem header_put {x : T_api_Item} (h : A.Fits x) (n : Int) : putL (A.made x n 12) 148 (A.sumField (A.made x n 12)) = A.header x n := by
  have h1 := A.front_len h n
  have h2 := A.made_12 h n
  have h3 := sumField_len (A.made x n 12)
  rw [A.header]
  generalize A.sumField (A.made x n 12) = f at *
  rw [putL, h2, h3]
  rw [List.append_assoc (A.front x n), List.take_append, List.drop_append, h1, List.take_of_length_le (by omega), List.drop_eq_nil_of_le (by omega)]
  simp
theorem header_len {x : T_api_Item} (h : A.Fits x) (n : Int) : (A.header x n).length = 512 := by
  rw [← header_put h n, putL_len _ _ _ (by rw [sumField_len, A.made_len h n 12 (by omega)]; omega), A.made_len h n 12 (by omega)]
theorem made_0 (x : T_api_Item) (n : Int) : List.replicate 512 cd_uint8.zero = A.made x n 0 := rfl
theorem made_next (x : T_api_Item) (n : Int) (k : Nat) : putL (A.made x n k) (A.fAt k) (A.fW x n k) = A.made x n (k + 1) := rfl
attribute [local irreducible] oMv oV oU oCall oCallV oBi oBin oUn oLoad oStore oNil oFld oField oIdx oIndex oPick oAlloc oBox oBuild oBs oConv oMk oSl oExt oFn oIface oMap oLook oMapUp oRange oNext oAssert oPanic oRes pN pA pL pDr pIf gA pGd Calls A.made A.header A.oct A.wrong
section
variable [Pan] {E w : World} {K Q : Value → World → Prop} {L M : List HA} {l r : List UInt8} {s s2 : Sl}

def fldV (k : Nat) : Value := .agg #[.int .i64 (A.fAt k : Nat), .int .i64 (A.fN k : Nat), fnV (some (wf k)), fnV (rf k)]
theorem fields_ok (hS : Sat E w M) (hQ : ∀ s w, Sat E w (rows cdF s flds :: M) → Q (.slice s.a 12 s.c) w) : Calls Tryd.prog 31 #[] w (retP Q) := by
  refine tar_fields.calls ?_
  unfold tar_fields.F
  repeat first | refine pN_bF1 ?_ | refine pN_bF0 ?_
  refine pN_bl (C := cdF) ((List.range 12).map fldV) flds rfl rfl rfl (Nat.le_of_ble_eq_true rfl) hS (Nat.le_of_ble_eq_true rfl) ?_
  clear hS
  intro s w hS
  exact hQ _ _ hS

/-- A head in a variable. -/
def headP (h : Nat) (x : T_api_Item) (n : Int) : HA := cel h ⟨65, [.string ⟨x.Name.toArray⟩, .string ⟨x.Link.toArray⟩, .int .i64 x.Kind, .int .i64 x.Mode, .int .i64 x.Time, .slice x.Data.1.a x.Data.2.length x.Data.1.c, .int .i64 n]⟩

theorem take_all {l : List UInt8} {n : Nat} (h : l.length ≤ n) : l.take n = l := List.take_of_length_le h
set_option maxHeartbeats 2000000 in
theorem write_ok {h : Nat} {x : T_api_Item} {n : Int} (hf : A.Fits x) (hn : x.Name.length ≤ 140737488355328) (k0 : 0 ≤ x.Kind) (k2 : x.Kind < 3) (hl : l.length = 512) (k : Nat) (hk : k < 12) (hS : Sat E w (rows cd_uint8 s l :: headP h x n :: M))
    (hQ : ∀ w, Sat E w (rows cd_uint8 s (putL l (A.fAt k) (A.fW x n k)) :: headP h x n :: M) → Q (.tuple #[]) w) :
    Calls Tryd.prog (wf k) #[.slice (s.sub (A.fAt k) cd_uint8.size).a (A.fN k) (s.sub (A.fAt k) cd_uint8.size).c, .pointer (some ⟨h, 0, none⟩)] w (retP Q) := by
  have hr := hf.rest
  have hp := hf.pre
  have hlk := hf.link
  unfold headP at *
  match k, hk with
  | 0, _ =>
    refine tar_fields_c1.calls ?_
    unfold tar_fields_c1.F
    repeat' (first | (refine pc_tar_parted (parted_ok (L := _ :: _ :: M) hn ?_ hS); clear hS; intro w hS) | refine pN_l hS (by first | rfl | assumption) ?_ | refine pN_via (by (intro K; simp (disch := omega) only [go_sem, pN_min, pN_max, w_u32, w_u64, Option.isNone_some, Option.isNone_none]; (try simp only [wrap_u32, wrap_u64]); rfl)) ?_ | fail)
    refine pN_cps (dn := 100) hS (fun _ => rfl) 0 (by omega) (by omega) ?_
    clear hS
    intro w hS
    rw [take_all hr] at hS
    exact hQ _ hS
  | 1, _ =>
    refine tar_fields_c3.calls ?_
    unfold tar_fields_c3.F
    repeat' (first | refine pN_l hS (by first | rfl | assumption) ?_ | refine pN_via (by (intro K; simp (disch := omega) only [go_sem, pN_min, pN_max, w_u32, w_u64, Option.isNone_some, Option.isNone_none]; (try simp only [wrap_u32, wrap_u64]); rfl)) ?_ | fail)
    refine pc_tar_octal (octal_ok hS 100 8 (by omega) (by omega) (by omega) _ ?_)
    exact fun w hS => hQ w hS
  | 2, _ => exact none_ok _ hS 108 8 (by omega) (by omega) (by omega) fun w hS => hQ w hS
  | 3, _ => exact none_ok _ hS 116 8 (by omega) (by omega) (by omega) fun w hS => hQ w hS
  | 4, _ =>
    refine tar_fields_c5.calls ?_
    unfold tar_fields_c5.F
    repeat' (first | refine pN_l hS (by first | rfl | assumption) ?_ | refine pN_via (by (intro K; simp (disch := omega) only [go_sem, pN_min, pN_max, w_u32, w_u64, Option.isNone_some, Option.isNone_none]; (try simp only [wrap_u32, wrap_u64]); rfl)) ?_ | fail)
    refine pc_tar_octal (octal_ok hS 124 12 (by omega) (by omega) (by omega) _ ?_)
    exact fun w hS => hQ w hS
  | 5, _ =>
    refine tar_fields_c7.calls ?_
    unfold tar_fields_c7.F
    repeat' (first | refine pN_l hS (by first | rfl | assumption) ?_ | refine pN_via (by (intro K; simp (disch := omega) only [go_sem, pN_min, pN_max, w_u32, w_u64, Option.isNone_some, Option.isNone_none]; (try simp only [wrap_u32, wrap_u64]); rfl)) ?_ | fail)
    refine pc_tar_octal (octal_ok hS 136 12 (by omega) (by omega) (by omega) _ ?_)
    exact fun w hS => hQ w hS
  | 6, _ =>
    refine tar_fields_c9.calls ?_
    unfold tar_fields_c9.F
    have e : (.string ⟨#[48, 53, 50]⟩ : Value) = .string ⟨List.toArray [48, 53, 50]⟩ := rfl
    rw [e]
    obtain ⟨kn, hkn⟩ : ∃ kn : Nat, x.Kind = kn := ⟨x.Kind.toNat, by omega⟩
    have hx : ([48, 53, 50] : List UInt8)[kn]? = some (A.letter x.Kind) := by
      rw [hkn]
      have : kn < 3 := by omega
      match kn, this with
      | 0, _ => rfl
      | 1, _ => rfl
      | 2, _ => rfl
    repeat' (first | refine pN_l hS (by first | rfl | assumption) ?_ | refine pN_via (by (intro K; simp (disch := omega) only [go_sem, pN_min, pN_max, w_u32, w_u64, Option.isNone_some, Option.isNone_none]; (try simp only [wrap_u32, wrap_u64]); rfl)) ?_ | fail)
    refine pN_sidx kn hkn hx ?_
    haveI hr1 := Rds.sub (C := cd_uint8) (L := rows cd_uint8 s l :: cel h ⟨65, [.string ⟨x.Name.toArray⟩, .string ⟨x.Link.toArray⟩, .int .i64 x.Kind, .int .i64 x.Mode, .int .i64 x.Time, .slice x.Data.1.a x.Data.2.length x.Data.1.c, .int .i64 n]⟩ :: M) (s := s) (l := l) 156 157 (by omega) (by omega)
    obtain ⟨g, hg, hc⟩ := rows_at (C := cd_uint8) (s := s) hS (by omega)
    have hl1 : ((l.drop 156).take (157 - 156)).length = 1 := by rw [List.length_take, List.length_drop]; omega
    refine pN_ix hS (C := cd_uint8) (s := s.sub 156 cd_uint8.size) 0 rfl hl1.symm (by omega) fun a y hy ha hel => ?_
    refine pN_sr (hel.sub (by omega)) hS rfl rfl (by omega) ?_
    clear hS
    intro w hS
    have e1 : l.set (156 + 0) (A.letter x.Kind) = putL l (A.fAt 6) (A.fW x n 6) := by
      rw [List.set_eq_take_append_cons_drop, if_pos (by omega)]
      simp [putL, A.fAt, A.fW]
    rw [e1] at hS
    exact hQ _ hS
  | 7, _ =>
    refine tar_fields_c11.calls ?_
    unfold tar_fields_c11.F
    repeat' (first | refine pN_l hS (by first | rfl | assumption) ?_ | refine pN_via (by (intro K; simp (disch := omega) only [go_sem, pN_min, pN_max, w_u32, w_u64, Option.isNone_some, Option.isNone_none]; (try simp only [wrap_u32, wrap_u64]); rfl)) ?_ | fail)
    refine pN_cps (dn := 100) hS (fun _ => rfl) 157 (by omega) (by omega) ?_
    clear hS
    intro w hS
    rw [take_all hlk] at hS
    exact hQ _ hS
  | 8, _ =>
    refine tar_fields_c13.calls ?_
    unfold tar_fields_c13.F
    refine pN_cps (dn := 8) (r := [117, 115, 116, 97, 114, 0, 48, 48]) hS (fun _ => rfl) 257 (by omega) (by omega) ?_
    clear hS
    intro w hS
    exact hQ _ hS
  | 9, _ => exact none_ok _ hS 329 8 (by omega) (by omega) (by omega) fun w hS => hQ w hS
  | 10, _ => exact none_ok _ hS 337 8 (by omega) (by omega) (by omega) fun w hS => hQ w hS
  | 11, _ =>
    refine tar_fields_c14.calls ?_
    unfold tar_fields_c14.F
    repeat' (first | (refine pc_tar_parted (parted_ok (L := _ :: _ :: M) hn ?_ hS); clear hS; intro w hS) | refine pN_l hS (by first | rfl | assumption) ?_ | refine pN_via (by (intro K; simp (disch := omega) only [go_sem, pN_min, pN_max, w_u32, w_u64, Option.isNone_some, Option.isNone_none]; (try simp only [wrap_u32, wrap_u64]); rfl)) ?_ | fail)
    refine pN_cps (dn := 155) hS (fun _ => rfl) 345 (by omega) (by omega) ?_
    clear hS
    intro w hS
    rw [take_all hp] at hS
    exact hQ _ hS
  | k + 12, hk => omega

theorem wf_call (k : Nat) (hk : k < 12) (args : Array Value) (w : World) : (callFunc (wf k) args).run Tryd.prog w = .ok (.enter (wf k) args) w := by
  match k, hk with
  | 0, _ => exact call_tar_fields_c1 args w
  | 1, _ => exact call_tar_fields_c3 args w
  | 2, _ | 3, _ | 9, _ | 10, _ => exact call_tar_none args w
  | 4, _ => exact call_tar_fields_c5 args w
  | 5, _ => exact call_tar_fields_c7 args w
  | 6, _ => exact call_tar_fields_c9 args w
  | 7, _ => exact call_tar_fields_c11 args w
  | 8, _ => exact call_tar_fields_c13 args w
  | 11, _ => exact call_tar_fields_c14 args w
  | k + 12, hk => omega

set_option maxHeartbeats 2000000 in
theorem header_ok {h : Nat} {x : T_api_Item} {n : Int} (hf : A.Fits x) (hn : x.Name.length ≤ 140737488355328) (k0 : 0 ≤ x.Kind) (k2 : x.Kind < 3) (hS : Sat E w (headP h x n :: M))
    (hQ : ∀ s w, Sat E w (rows cd_uint8 s (A.header x n) :: headP h x n :: M) → Q (.slice s.a 512 s.c) w) :
    Calls Tryd.prog 27 #[.pointer (some ⟨h, 0, none⟩)] w (retP Q) := by
  refine tar_header.calls ?_
  unfold tar_header.F
  repeat' (first | (refine pN_mk hS _ (by first | rfl | (exact (Int.toNat_of_nonneg (by omega)).symm)) (by first | omega | (simp only [go_sem]; omega)) ?_; clear hS; intro s w hS) | fail)
  rw [made_0 x n] at hS
  refine pc_tar_fields (fields_ok hS ?_)
  clear hS
  intro sf w hS
  repeat' (first | refine pN_via (by (intro K; simp (disch := omega) only [go_sem, pN_min, pN_max, w_u32, w_u64, Option.isNone_some, Option.isNone_none]; (try simp only [wrap_u32, wrap_u64]); rfl)) ?_ | fail)
  refine ⟨fun v w' => ∃ k : Nat, v = .int .i64 k ∧ k ≤ 12 ∧ Sat E w' (rows cd_uint8 s (A.made x n k) :: headP h x n :: rows cdF sf flds :: M), fun v _ => 12 - (RowKit.intOf v).toNat, ⟨0, rfl, Nat.zero_le _, hS.to⟩, ?_⟩
  clear hS
  rintro _ _ w ⟨k, rfl, hk, hS⟩
  by_cases hlt : k < 12
  · have hfk := flds_at k hlt
    have hml := A.made_len hf n k hk
    have hfl : flds.length = 12 := rfl
    have hfe := A.fAt_end k hlt
    have hfn := A.fN_pos k hlt
    have hcv := fun args w => wf_call k hlt args w
    have hwr : IntKind.i64.wrap (((fld k).1 : Int) + ((fld k).2.1 : Int)) = ((A.fAt k + A.fN k : Nat) : Int) := by
      show IntKind.i64.wrap ((A.fAt k : Int) + (A.fN k : Int)) = _
      rw [wrap_i64 (by omega)]
      omega
    have hone : (cdF.enc (fld k)).all (·.oneCell') = true := List.all_eq_true.2 fun u hu => cdF.one _ u hu
    repeat' (first | (refine pN_lss_s ?_ ?_ <;> intro hc <;> try (exfalso; omega)) | refine pIf_t ?_ | refine pN_ld_at ha hS (by rfl) ?_ | (refine pN_nz hS ?_; clear hS; intro a w hS) | refine pN_ixk hS _ (by first | rfl | (exact (Int.toNat_of_nonneg (by omega)).symm)) (by first | rfl | omega | simpa only [go_sem] using True.intro | (simp only [go_sem]; omega)) (by assumption) fun a ha hel => ?_ | fail)
    refine pN_sa (us := cdF.enc (fld k)) hS rfl rfl hone ?_
    clear hS
    intro w hS
    dsimp only at hS
    repeat' (first | refine pL_l hS (by first | rfl | assumption) ?_ | (refine pDr_go hS ?_; clear hS; intro w hS) | refine pA_via (by (intro K; simp (disch := omega) only [go_sem, pN_min, pN_max, w_u32, w_u64, Option.isNone_some, Option.isNone_none]; (try simp only [wrap_u32, wrap_u64]); rfl)) ?_ | fail)
    refine pA_sl2w (C := cd_uint8) (s := s) (l := A.made x n k) hS (A.fAt k) (A.fAt k + A.fN k) rfl hwr hml.symm (by omega) (by omega) ?_
    intro hp
    refine pN_callV (cap := []) hcv ?_
    have e : A.fAt k + A.fN k - A.fAt k = A.fN k := by omega
    rw [e]
    refine write_ok (n := n) (s := s) (l := A.made x n k) (M := rows cdF sf flds :: M) hf hn k0 k2 hml k hlt hS.to ?_
    clear hS
    intro w hS
    rw [made_next] at hS
    refine ⟨trivial, ?_⟩
    repeat' (first | refine pN_via (by (intro K; simp (disch := omega) only [go_sem, pN_min, pN_max, w_u32, w_u64, Option.isNone_some, Option.isNone_none]; (try simp only [wrap_u32, wrap_u64]); rfl)) ?_ | fail)
    exact ⟨⟨k + 1, rfl, by omega, hS⟩, by simp [RowKit.intOf] <;> omega⟩
  · obtain rfl : k = 12 := by omega
    repeat' (first | (refine pN_lss_s ?_ ?_ <;> intro hc <;> try (exfalso; omega)) | refine pIf_f ?_ | (refine pDr_go hS ?_; clear hS; intro w hS) | fail)
    have hml := A.made_len hf n 12 hk
    refine pA_sl1w (C := cd_uint8) (s := s) (l := A.made x n 12) hS 148 rfl hml.symm (by omega) ?_
    intro hp
    have h512 : (Value.slice s.a 512 s.c) = .slice s.a (A.made x n 12).length s.c := by rw [hml]
    rw [h512]
    refine pc_tar_sum (sum_ok (l := A.made x n 12) hS (by omega) (by omega) ?_)
    clear hS
    intro s2 w hS
    refine ⟨trivial, ?_⟩
    refine pN_cp (C := cd_uint8) (s := s) (s2 := s2) (l := A.made x n 12) (r := A.sumField (A.made x n 12)) (dn := (A.made x n 12).length - 148) hS 148 (by omega) (by omega) (sumField_len _).symm ?_
    clear hS
    intro w hS
    rw [take_all (by rw [sumField_len]; omega), header_put hf n] at hS
    refine ⟨trivial, ?_⟩
    rw [hml]
    exact hQ _ _ hS.to
end

end Go.Proofs.YteeepkimnpabiaaDoor
