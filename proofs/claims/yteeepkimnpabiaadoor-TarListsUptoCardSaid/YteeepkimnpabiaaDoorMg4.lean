/-
  Texts of one proof, one behind the other: TarF, LfPithlaw33, TarG, TarK, TarS, Part, TarR, Rnd, RndC, LrTar.
-/
import Derived.Test.YteeepkimnpabiaaDoorRows
import Derived.OrdersIn
import Derived.TacticsIn
import Derived.RangeFuncRecord
import Derived.Test.YteeepkimnpabiaaDoorMg3
namespace Go.Proofs.YteeepkimnpabiaaDoor
open Go
set_option linter.unusedSimpArgs false
set_option linter.unnecessarySimpa false
set_option linter.unusedSectionVars false
set_option linter.unusedVariables false

abbrev Fld := Nat × Nat × Option Nat × Option Nat
def fnV : Option Nat → Value
  | some g => .func (.func g) #[] #[]
  | none => .nilFunc
theorem fnV_one (o : Option Nat) : (fnV o).oneCell' = true := by cases o <;> rfl
def cdF : Cd Fld := { e := 73, size := 4, bytes := 32, zero := (0, 0, none, none), enc := fun x => [.int .i64 (x.1 : Nat), .int .i64 (x.2.1 : Nat), fnV x.2.2.1, fnV x.2.2.2], len := fun _ => rfl, one := by intro b u hu; simp only [List.mem_cons, List.not_mem_nil, or_false] at hu; rcases hu with rfl | rfl | rfl | rfl <;> first | rfl | exact fnV_one _ }
instance btF : Bt cdF 32 := ⟨rfl⟩
instance rowF : Row Tryd.prog 69 Fld cdF := ⟨⟨(.agg #[(.int .i64 0), (.int .i64 0), .nilFunc, .nilFunc]), ⟨Tryd.underlying69, info_parts (by kernel_rfl), rfl, by decide⟩, rfl⟩, by decide⟩

/-- The functions that write. -/
def wf : Nat → Nat
  | 0 => 46 | 1 => 49 | 2 => 52 | 3 => 52 | 4 => 53 | 5 => 55 | 6 => 57 | 7 => 59 | 8 => 61 | 9 => 52 | 10 => 52 | _ => 62
/-- The functions that read. -/
def rf : Nat → Option Nat
  | 0 => some 47 | 1 => some 50 | 4 => some 54 | 5 => some 56 | 6 => some 58 | 7 => some 60 | 11 => some 63 | _ => none
def fld (k : Nat) : Fld := (A.fAt k, A.fN k, some (wf k), rf k)
def flds : List Fld := (List.range 12).map fld
theorem flds_at (k : Nat) (h : k < 12) : flds[k]? = some (fld k) := by simp [flds, h]

theorem run_bF1 (a n : Int) (f g : Nat) (w : World) : (oBuild 73 [(0, .int .i64 a), (1, .int .i64 n), (2, .func (.func f) #[] #[]), (3, .func (.func g) #[] #[])]).run Tryd.prog w = .ok (.value (.agg #[.int .i64 a, .int .i64 n, .func (.func f) #[] #[], .func (.func g) #[] #[]])) w := by kernel_rfl
theorem run_bF0 (a n : Int) (f : Nat) (w : World) : (oBuild 73 [(0, .int .i64 a), (1, .int .i64 n), (2, .func (.func f) #[] #[]), (3, .nilFunc)]).run Tryd.prog w = .ok (.value (.agg #[.int .i64 a, .int .i64 n, .func (.func f) #[] #[], .nilFunc])) w := by kernel_rfl
theorem pN_bF1 [Pan] {w : World} {K : Value → World → Prop} {a n : Int} {f g : Nat} (hk : K (.agg #[.int .i64 a, .int .i64 n, .func (.func f) #[] #[], .func (.func g) #[] #[]]) w) : pN Tryd.prog (oBuild 73 [(0, .int .i64 a), (1, .int .i64 n), (2, .func (.func f) #[] #[]), (3, .func (.func g) #[] #[])]) w K := by rw [pN_def, run_bF1, rN_value]; exact hk
theorem pN_bF0 [Pan] {w : World} {K : Value → World → Prop} {a n : Int} {f : Nat} (hk : K (.agg #[.int .i64 a, .int .i64 n, .func (.func f) #[] #[], .nilFunc]) w) : pN Tryd.prog (oBuild 73 [(0, .int .i64 a), (1, .int .i64 n), (2, .func (.func f) #[] #[]), (3, .nilFunc)]) w K := by rw [pN_def, run_bF0, rN_value]; exact hk
theorem sumField_len (l : List UInt8) : (A.sumField l).length = 8 := by simp [A.sumField, A.oct_len]
theorem header_put {x : T_api_Item} (h : A.Fits x) (n : Int) : putL (A.made x n 12) 148 (A.sumField (A.made x n 12)) = A.header x n := by
  have h1 := A.front_len h n
  have h2 := A.made_12 h n
  have h3 := sumField_len (A.made x n 12)
  rw [A.header]
  generalize A.sumField (A.made x n 12) = f at *
  rw [putL, h2, h3]
  rw [List.append_assoc (A.front x n), List.take_append, List.drop_append, h1, List.take_of_length_le (by omega), List.drop_eq_nil_of_le (by omega)]
  simp
theorem header_len {x : T_api_Item} (h : A.Fits x) (n : Int) : (A.header x n).length = 512 := by
  rw [← header_put h n, putL_len _ _ _ (by rw [sumField_len, A.made_len h n 12 (by omega)]; omega), A.made_len h n 12 (by omega)]
theorem made_0 (x : T_api_Item) (n : Int) : List.replicate 512 cd_uint8.zero = A.made x n 0 := rfl
theorem made_next (x : T_api_Item) (n : Int) (k : Nat) : putL (A.made x n k) (A.fAt k) (A.fW x n k) = A.made x n (k + 1) := rfl
attribute [local irreducible] oMv oV oU oCall oCallV oBi oBin oUn oLoad oStore oNil oFld oField oIdx oIndex oPick oAlloc oBox oBuild oBs oConv oMk oSl oExt oFn oIface oMap oLook oMapUp oRange oNext oAssert oPanic oRes pN pA pL pDr pIf gA pGd Calls A.made A.header A.oct A.wrong
section
variable [Pan] {E w : World} {K Q : Value → World → Prop} {L M : List HA} {l r : List UInt8} {s s2 : Sl}

def fldV (k : Nat) : Value := .agg #[.int .i64 (A.fAt k : Nat), .int .i64 (A.fN k : Nat), fnV (some (wf k)), fnV (rf k)]
theorem fields_ok (hS : Sat E w M) (hQ : ∀ s w, Sat E w (rows cdF s flds :: M) → Q (.slice s.a 12 s.c) w) : Calls Tryd.prog 31 #[] w (retP Q) := by
  refine tar_fields.calls ?_
  unfold tar_fields.F
  repeat first | refine pN_bF1 ?_ | refine pN_bF0 ?_
  refine pN_bl (C := cdF) ((List.range 12).map fldV) flds rfl rfl rfl (Nat.le_of_ble_eq_true rfl) hS (Nat.le_of_ble_eq_true rfl) ?_
  clear hS
  intro s w hS
  exact hQ _ _ hS

/-- A head in a variable. -/
def headP (h : Nat) (x : T_api_Item) (n : Int) : HA := cel h ⟨65, [.string ⟨x.Name.toArray⟩, .string ⟨x.Link.toArray⟩, .int .i64 x.Kind, .int .i64 x.Mode, .int .i64 x.Time, .slice x.Data.1.a x.Data.2.length x.Data.1.c, .int .i64 n]⟩

theorem take_all {l : List UInt8} {n : Nat} (h : l.length ≤ n) : l.take n = l := List.take_of_length_le h
set_option maxHeartbeats 2000000 in
theorem write_ok {h : Nat} {x : T_api_Item} {n : Int} (hf : A.Fits x) (hn : x.Name.length ≤ 140737488355328) (k0 : 0 ≤ x.Kind) (k2 : x.Kind < 3) (hl : l.length = 512) (k : Nat) (hk : k < 12) (hS : Sat E w (rows cd_uint8 s l :: headP h x n :: M))
    (hQ : ∀ w, Sat E w (rows cd_uint8 s (putL l (A.fAt k) (A.fW x n k)) :: headP h x n :: M) → Q (.tuple #[]) w) :
    Calls Tryd.prog (wf k) #[.slice (s.sub (A.fAt k) cd_uint8.size).a (A.fN k) (s.sub (A.fAt k) cd_uint8.size).c, .pointer (some ⟨h, 0, none⟩)] w (retP Q) := by
  have hr := hf.rest
  have hp := hf.pre
  have hlk := hf.link
  unfold headP at *
  match k, hk with
  | 0, _ =>
    refine tar_fields_c1.calls ?_
    unfold tar_fields_c1.F
    repeat' (first | (refine pc_tar_parted (parted_ok (L := _ :: _ :: M) hn ?_ hS); clear hS; intro w hS) | refine pN_l hS (by first | rfl | assumption) ?_ | refine pN_via (by (intro K; simp (disch := omega) only [go_sem, pN_min, pN_max, w_u32, w_u64, Option.isNone_some, Option.isNone_none]; (try simp only [wrap_u32, wrap_u64]); rfl)) ?_ | fail)
    refine pN_cps (dn := 100) hS (fun _ => rfl) 0 (by omega) (by omega) ?_
    clear hS
    intro w hS
    rw [take_all hr] at hS
    exact hQ _ hS
  | 1, _ =>
    refine tar_fields_c3.calls ?_
    unfold tar_fields_c3.F
    repeat' (first | refine pN_l hS (by first | rfl | assumption) ?_ | refine pN_via (by (intro K; simp (disch := omega) only [go_sem, pN_min, pN_max, w_u32, w_u64, Option.isNone_some, Option.isNone_none]; (try simp only [wrap_u32, wrap_u64]); rfl)) ?_ | fail)
    refine pc_tar_octal (octal_ok hS 100 8 (by omega) (by omega) (by omega) _ ?_)
    exact fun w hS => hQ w hS
  | 2, _ => exact none_ok _ hS 108 8 (by omega) (by omega) (by omega) fun w hS => hQ w hS
  | 3, _ => exact none_ok _ hS 116 8 (by omega) (by omega) (by omega) fun w hS => hQ w hS
  | 4, _ =>
    refine tar_fields_c5.calls ?_
    unfold tar_fields_c5.F
    repeat' (first | refine pN_l hS (by first | rfl | assumption) ?_ | refine pN_via (by (intro K; simp (disch := omega) only [go_sem, pN_min, pN_max, w_u32, w_u64, Option.isNone_some, Option.isNone_none]; (try simp only [wrap_u32, wrap_u64]); rfl)) ?_ | fail)
    refine pc_tar_octal (octal_ok hS 124 12 (by omega) (by omega) (by omega) _ ?_)
    exact fun w hS => hQ w hS
  | 5, _ =>
    refine tar_fields_c7.calls ?_
    unfold tar_fields_c7.F
    repeat' (first | refine pN_l hS (by first | rfl | assumption) ?_ | refine pN_via (by (intro K; simp (disch := omega) only [go_sem, pN_min, pN_max, w_u32, w_u64, Option.isNone_some, Option.isNone_none]; (try simp only [wrap_u32, wrap_u64]); rfl)) ?_ | fail)
    refine pc_tar_octal (octal_ok hS 136 12 (by omega) (by omega) (by omega) _ ?_)
    exact fun w hS => hQ w hS
  | 6, _ =>
    refine tar_fields_c9.calls ?_
    unfold tar_fields_c9.F
    have e : (.string ⟨#[48, 53, 50]⟩ : Value) = .string ⟨List.toArray [48, 53, 50]⟩ := rfl
    rw [e]
    obtain ⟨kn, hkn⟩ : ∃ kn : Nat, x.Kind = kn := ⟨x.Kind.toNat, by omega⟩
    have hx : ([48, 53, 50] : List UInt8)[kn]? = some (A.letter x.Kind) := by
      rw [hkn]
      have : kn < 3 := by omega
      match kn, this with
      | 0, _ => rfl
      | 1, _ => rfl
      | 2, _ => rfl
    repeat' (first | refine pN_l hS (by first | rfl | assumption) ?_ | refine pN_via (by (intro K; simp (disch := omega) only [go_sem, pN_min, pN_max, w_u32, w_u64, Option.isNone_some, Option.isNone_none]; (try simp only [wrap_u32, wrap_u64]); rfl)) ?_ | fail)
    refine pN_sidx kn hkn hx ?_
    haveI hr1 := Rds.sub (C := cd_uint8) (L := rows cd_uint8 s l :: cel h ⟨65, [.string ⟨x.Name.toArray⟩, .string ⟨x.Link.toArray⟩, .int .i64 x.Kind, .int .i64 x.Mode, .int .i64 x.Time, .slice x.Data.1.a x.Data.2.length x.Data.1.c, .int .i64 n]⟩ :: M) (s := s) (l := l) 156 157 (by omega) (by omega)
    obtain ⟨g, hg, hc⟩ := rows_at (C := cd_uint8) (s := s) hS (by omega)
    have hl1 : ((l.drop 156).take (157 - 156)).length = 1 := by rw [List.length_take, List.length_drop]; omega
    refine pN_ix hS (C := cd_uint8) (s := s.sub 156 cd_uint8.size) 0 rfl hl1.symm (by omega) fun a y hy ha hel => ?_
    refine pN_sr (hel.sub (by omega)) hS rfl rfl (by omega) ?_
    clear hS
    intro w hS
    have e1 : l.set (156 + 0) (A.letter x.Kind) = putL l (A.fAt 6) (A.fW x n 6) := by
      rw [List.set_eq_take_append_cons_drop, if_pos (by omega)]
      simp [putL, A.fAt, A.fW]
    rw [e1] at hS
    exact hQ _ hS
  | 7, _ =>
    refine tar_fields_c11.calls ?_
    unfold tar_fields_c11.F
    repeat' (first | refine pN_l hS (by first | rfl | assumption) ?_ | refine pN_via (by (intro K; simp (disch := omega) only [go_sem, pN_min, pN_max, w_u32, w_u64, Option.isNone_some, Option.isNone_none]; (try simp only [wrap_u32, wrap_u64]); rfl)) ?_ | fail)
    refine pN_cps (dn := 100) hS (fun _ => rfl) 157 (by omega) (by omega) ?_
    clear hS
    intro w hS
    rw [take_all hlk] at hS
    exact hQ _ hS
  | 8, _ =>
    refine tar_fields_c13.calls ?_
    unfold tar_fields_c13.F
    refine pN_cps (dn := 8) (r := [117, 115, 116, 97, 114, 0, 48, 48]) hS (fun _ => rfl) 257 (by omega) (by omega) ?_
    clear hS
    intro w hS
    exact hQ _ hS
  | 9, _ => exact none_ok _ hS 329 8 (by omega) (by omega) (by omega) fun w hS => hQ w hS
  | 10, _ => exact none_ok _ hS 337 8 (by omega) (by omega) (by omega) fun w hS => hQ w hS
  | 11, _ =>
    refine tar_fields_c14.calls ?_
    unfold tar_fields_c14.F
    repeat' (first | (refine pc_tar_parted (parted_ok (L := _ :: _ :: M) hn ?_ hS); clear hS; intro w hS) | refine pN_l hS (by first | rfl | assumption) ?_ | refine pN_via (by (intro K; simp (disch := omega) only [go_sem, pN_min, pN_max, w_u32, w_u64, Option.isNone_some, Option.isNone_none]; (try simp only [wrap_u32, wrap_u64]); rfl)) ?_ | fail)
    refine pN_cps (dn := 155) hS (fun _ => rfl) 345 (by omega) (by omega) ?_
    clear hS
    intro w hS
    rw [take_all hp] at hS
    exact hQ _ hS
  | k + 12, hk => omega

theorem wf_call (k : Nat) (hk : k < 12) (args : Array Value) (w : World) : (callFunc (wf k) args).run Tryd.prog w = .ok (.enter (wf k) args) w := by
  match k, hk with
  | 0, _ => exact call_tar_fields_c1 args w
  | 1, _ => exact call_tar_fields_c3 args w
  | 2, _ | 3, _ | 9, _ | 10, _ => exact call_tar_none args w
  | 4, _ => exact call_tar_fields_c5 args w
  | 5, _ => exact call_tar_fields_c7 args w
  | 6, _ => exact call_tar_fields_c9 args w
  | 7, _ => exact call_tar_fields_c11 args w
  | 8, _ => exact call_tar_fields_c13 args w
  | 11, _ => exact call_tar_fields_c14 args w
  | k + 12, hk => omega

set_option maxHeartbeats 2000000 in
theorem header_ok {h : Nat} {x : T_api_Item} {n : Int} (hf : A.Fits x) (hn : x.Name.length ≤ 140737488355328) (k0 : 0 ≤ x.Kind) (k2 : x.Kind < 3) (hS : Sat E w (headP h x n :: M))
    (hQ : ∀ s w, Sat E w (rows cd_uint8 s (A.header x n) :: headP h x n :: M) → Q (.slice s.a 512 s.c) w) :
    Calls Tryd.prog 27 #[.pointer (some ⟨h, 0, none⟩)] w (retP Q) := by
  refine tar_header.calls ?_
  unfold tar_header.F
  repeat' (first | (refine pN_mk hS _ (by first | rfl | (exact (Int.toNat_of_nonneg (by omega)).symm)) (by first | omega | (simp only [go_sem]; omega)) ?_; clear hS; intro s w hS) | fail)
  rw [made_0 x n] at hS
  refine pc_tar_fields (fields_ok hS ?_)
  clear hS
  intro sf w hS
  repeat' (first | refine pN_via (by (intro K; simp (disch := omega) only [go_sem, pN_min, pN_max, w_u32, w_u64, Option.isNone_some, Option.isNone_none]; (try simp only [wrap_u32, wrap_u64]); rfl)) ?_ | fail)
  refine ⟨fun v w' => ∃ k : Nat, v = .int .i64 k ∧ k ≤ 12 ∧ Sat E w' (rows cd_uint8 s (A.made x n k) :: headP h x n :: rows cdF sf flds :: M), fun v _ => 12 - (RowKit.intOf v).toNat, ⟨0, rfl, Nat.zero_le _, hS.to⟩, ?_⟩
  clear hS
  rintro _ _ w ⟨k, rfl, hk, hS⟩
  by_cases hlt : k < 12
  · have hfk := flds_at k hlt
    have hml := A.made_len hf n k hk
    have hfl : flds.length = 12 := rfl
    have hfe := A.fAt_end k hlt
    have hfn := A.fN_pos k hlt
    have hcv := fun args w => wf_call k hlt args w
    have hwr : IntKind.i64.wrap (((fld k).1 : Int) + ((fld k).2.1 : Int)) = ((A.fAt k + A.fN k : Nat) : Int) := by
      show IntKind.i64.wrap ((A.fAt k : Int) + (A.fN k : Int)) = _
      rw [wrap_i64 (by omega)]
      omega
    have hone : (cdF.enc (fld k)).all (·.oneCell') = true := List.all_eq_true.2 fun u hu => cdF.one _ u hu
    repeat' (first | (refine pN_lss_s ?_ ?_ <;> intro hc <;> try (exfalso; omega)) | refine pIf_t ?_ | refine pN_ld_at ha hS (by rfl) ?_ | (refine pN_nz hS ?_; clear hS; intro a w hS) | refine pN_ixk hS _ (by first | rfl | (exact (Int.toNat_of_nonneg (by omega)).symm)) (by first | rfl | omega | simpa only [go_sem] using True.intro | (simp only [go_sem]; omega)) (by assumption) fun a ha hel => ?_ | fail)
    refine pN_sa (us := cdF.enc (fld k)) hS rfl rfl hone ?_
    clear hS
    intro w hS
    dsimp only at hS
    repeat' (first | refine pL_l hS (by first | rfl | assumption) ?_ | (refine pDr_go hS ?_; clear hS; intro w hS) | refine pA_via (by (intro K; simp (disch := omega) only [go_sem, pN_min, pN_max, w_u32, w_u64, Option.isNone_some, Option.isNone_none]; (try simp only [wrap_u32, wrap_u64]); rfl)) ?_ | fail)
    refine pA_sl2w (C := cd_uint8) (s := s) (l := A.made x n k) hS (A.fAt k) (A.fAt k + A.fN k) rfl hwr hml.symm (by omega) (by omega) ?_
    intro hp
    refine pN_callV (cap := []) hcv ?_
    have e : A.fAt k + A.fN k - A.fAt k = A.fN k := by omega
    rw [e]
    refine write_ok (n := n) (s := s) (l := A.made x n k) (M := rows cdF sf flds :: M) hf hn k0 k2 hml k hlt hS.to ?_
    clear hS
    intro w hS
    rw [made_next] at hS
    refine ⟨trivial, ?_⟩
    repeat' (first | refine pN_via (by (intro K; simp (disch := omega) only [go_sem, pN_min, pN_max, w_u32, w_u64, Option.isNone_some, Option.isNone_none]; (try simp only [wrap_u32, wrap_u64]); rfl)) ?_ | fail)
    exact ⟨⟨k + 1, rfl, by omega, hS⟩, by simp [RowKit.intOf] <;> omega⟩
  · obtain rfl : k = 12 := by omega
    repeat' (first | (refine pN_lss_s ?_ ?_ <;> intro hc <;> try (exfalso; omega)) | refine pIf_f ?_ | (refine pDr_go hS ?_; clear hS; intro w hS) | fail)
    have hml := A.made_len hf n 12 hk
    refine pA_sl1w (C := cd_uint8) (s := s) (l := A.made x n 12) hS 148 rfl hml.symm (by omega) ?_
    intro hp
    have h512 : (Value.slice s.a 512 s.c) = .slice s.a (A.made x n 12).length s.c := by rw [hml]
    rw [h512]
    refine pc_tar_sum (sum_ok (l := A.made x n 12) hS (by omega) (by omega) ?_)
    clear hS
    intro s2 w hS
    refine ⟨trivial, ?_⟩
    refine pN_cp (C := cd_uint8) (s := s) (s2 := s2) (l := A.made x n 12) (r := A.sumField (A.made x n 12)) (dn := (A.made x n 12).length - 148) hS 148 (by omega) (by omega) (sumField_len _).symm ?_
    clear hS
    intro w hS
    rw [take_all (by rw [sumField_len]; omega), header_put hf n] at hS
    refine ⟨trivial, ?_⟩
    rw [hml]
    exact hQ _ _ hS.to
end

end Go.Proofs.YteeepkimnpabiaaDoor

namespace Go.Proofs.YteeepkimnpabiaaDoor
open Go
set_option linter.unusedSimpArgs false
set_option linter.unnecessarySimpa false
set_option linter.unusedSectionVars false
set_option linter.unusedVariables false
set_option maxRecDepth 100000

/-! pithlaw33_TarTold: pith/pithlaw33.TarTold; temporaries: 0:x 1:at 2:by 3:x 4:at 5:by 7:p 8:e 9:y 10:n 11:f -/
def pithlaw33_TarTold.H : Hints := { cut := fun  | _ => none, loop := fun  | _ => ([], 0), order := fun  | _ => [] }
def pithlaw33_TarTold.F [Pan] (x0 : Value) (x1 : Value) (x2 : Value) (w : World) (Q : Value → World → Prop) : Prop :=
 pN Tryd.prog (oBox 24 x0) w fun x3 w1 =>
 pN Tryd.prog (oLoad 24 x3) w1 fun x13 w2 =>
 pN Tryd.prog (oCall 8 [x13]) w2 fun x14 w3 =>
 pN Tryd.prog (oExt x14 0) w3 fun x15 w4 =>
 pN Tryd.prog (oExt x14 1) w4 fun x16 w5 =>
 pN Tryd.prog (oCall 9 [x16]) w5 fun x18 w6 =>
 pN Tryd.prog (oBin .neq 3 (.tmp 18) (.const (.int .i64 0)) x18 (.int .i64 0)) w6 fun x19 w7 =>
 pGd (gB x19 false) (pN Tryd.prog (oMv x1) w7) w7 fun x21 w8 =>
 pGd (gB x19 false) (pN Tryd.prog (oBin .lss 3 (.tmp 21) (.const (.int .i64 0)) x21 (.int .i64 0)) w8) w8 fun x22 w9 =>
 pN Tryd.prog (oPick x19 (.bool true) x22) w9 fun x23 w10 =>
 pGd (gB x23 false) (pN Tryd.prog (oMv x2) w10) w10 fun x25 w11 =>
 pGd (gB x23 false) (pN Tryd.prog (oBin .eql 5 (.tmp 25) (.const (.int .u8 0)) x25 (bv 0)) w11) w11 fun x26 w12 =>
 pN Tryd.prog (oPick x23 (.bool true) x26) w12 fun x27 w13 =>
 pIf x27
 (pN Tryd.prog (oBi .len #[22] 3 [false] [x15]) w13 fun x29 w14 =>
 pN Tryd.prog (oBin .eql 3 (.tmp 29) (.const (.int .i64 0)) x29 (.int .i64 0)) w14 fun x30 w15 =>
 pN Tryd.prog (oCall 9 [x16]) w15 fun x32 w16 =>
 pN Tryd.prog (oBin .neq 3 (.tmp 32) (.const (.int .i64 0)) x32 (.int .i64 0)) w16 fun x33 w17 =>
 pN Tryd.prog (oBin .eql 4 (.tmp 30) (.tmp 33) x30 x33) w17 fun x34 w18 =>
 pGd (gB x34 true) (pN Tryd.prog (oCall 10 []) w18) w18 fun x36 w19 =>
 pN Tryd.prog (oPick x34 x36 (.bool false)) w19 fun x37 w20 =>
 Q x37 w20)
 (pN Tryd.prog (oBi .len #[22] 3 [false] [x15]) w13 fun x39 w21 =>
 pN Tryd.prog (oBin .lss 3 (.tmp 39) (.const (.int .i64 512)) x39 (.int .i64 512)) w21 fun x40 w22 =>
 pIf x40
 (Q (.bool false) w22)
 (pN Tryd.prog (oBin .rem 3 (.tmp 42) (.const (.int .i64 512)) x1 (.int .i64 512)) w22 fun x43 w23 =>
 pN Tryd.prog (oIdx 22 x15 x43) w23 fun x44 w24 =>
 pN Tryd.prog (oLoad 5 x44) w24 fun x45 w25 =>
 pN Tryd.prog (oBin .xor 5 (.tmp 45) (.tmp 46) x45 x2) w25 fun x47 w26 =>
 pN Tryd.prog (oIdx 22 x15 x43) w26 fun x48 w27 =>
 pN Tryd.prog (oStore 5 x48 x47) w27 fun _ w28 =>
 pN Tryd.prog (oCall 11 [x15]) w28 fun x51 w29 =>
 pN Tryd.prog (oExt x51 0) w29 fun x52 w30 =>
 pN Tryd.prog (oExt x51 1) w30 fun x53 w31 =>
 pN Tryd.prog (oExt x51 2) w31 fun x54 w32 =>
 pN Tryd.prog (oAlloc 24) w32 fun x9 w33 =>
 pN Tryd.prog (oStore 24 x9 x52) w33 fun _ w34 =>
 pN Tryd.prog (oCall 9 [x54]) w34 fun x56 w35 =>
 pN Tryd.prog (oBin .neq 3 (.tmp 56) (.const (.int .i64 0)) x56 (.int .i64 0)) w35 fun x57 w36 =>
 pGd (gB x57 true) (pN Tryd.prog (oMv x53) w36) w36 fun x59 w37 =>
 pGd (gB x57 true) (pN Tryd.prog (oBin .eql 3 (.tmp 59) (.const (.int .i64 0)) x59 (.int .i64 0)) w37) w37 fun x60 w38 =>
 pN Tryd.prog (oPick x57 x60 (.bool false)) w38 fun x61 w39 =>
 pGd (gB x61 true) (pN Tryd.prog (oLoad 24 x9) w39) w39 fun x63 w40 =>
 pGd (gB x61 true) (pN Tryd.prog (oBuild 24 []) w40) w40 fun x64 w41 =>
 pGd (gB x61 true) (pN Tryd.prog (oCall 12 [x63, x64]) w41) w41 fun x65 w42 =>
 pN Tryd.prog (oPick x61 x65 (.bool false)) w42 fun x66 w43 =>
 Q x66 w43))
noncomputable def pithlaw33_TarTold.c : Code := match Tryd.f3.body with | some c => c | none => .skip
theorem pithlaw33_TarTold.eq [Pan] (x0 : Value) (x1 : Value) (x2 : Value) (w : World) (Q : Value → World → Prop) : cw Tryd.prog pithlaw33_TarTold.H pithlaw33_TarTold.c (endQ Tryd.prog Tryd.f3.results.toList Q) (argsE [x0, x1, x2]) w = pithlaw33_TarTold.F x0 x1 x2 w Q := by kernel_rfl
theorem pithlaw33_TarTold.calls [Pan] {x0 : Value} {x1 : Value} {x2 : Value} {w : World} {Q : Value → World → Prop} (h : pithlaw33_TarTold.F x0 x1 x2 w Q) : Calls Tryd.prog 3 #[x0, x1, x2] w (retP Q) :=
  calls_of_cw (H := pithlaw33_TarTold.H) (c := pithlaw33_TarTold.c) (args := [x0, x1, x2]) mixed Tryd.func3 (by kernel_rfl) (by kernel_rfl) (Nat.le_of_ble_eq_true (by kernel_rfl)) ((pithlaw33_TarTold.eq x0 x1 x2 w Q).mpr h)

/-! pithlaw33_TarBack: pith/pithlaw33.TarBack; temporaries: 0:l 1:cuts 2:l 3:cuts 5:b 6:e 7:bad 8:_ 9:x 10:p 11:f 12:y 13:n 14:g 15:r 16:f 17:_ 18:n 19:r 20:f -/
def pithlaw33_TarBack.H : Hints := { cut := fun | 15 => some ([7], 75557863725910028484240) | 30 => some ([], 11150372266958312624538890910372415684739088) | _ => none, loop := fun | 6 => ([7, 30], 151115727451827573128848) | 24 => ([116], 22300745115453873404978476216160420240293904) | _ => ([], 0), order := fun  | _ => [] }
def pithlaw33_TarBack.F [Pan] (x0 : Value) (x1 : Value) (w : World) (Q : Value → World → Prop) : Prop :=
 pN Tryd.prog (oCall 23 [(.slice none 0 0)]) w fun x21 w1 =>
 pN Tryd.prog (oBin .eql 51 (.tmp 21) (.const .nilFunc) x21 .nilFunc) w1 fun x22 w2 =>
 pIf x22
 (Q (.bool false) w2)
 (pN Tryd.prog (oCall 15 [x0]) w2 fun x25 w3 =>
 pN Tryd.prog (oExt x25 0) w3 fun x26 w4 =>
 pN Tryd.prog (oExt x25 1) w4 fun x27 w5 =>
 pN Tryd.prog (oBi .len #[34] 3 [false] [x0]) w5 fun x29 w6 =>
 ∃ (L6 : Value → Value → World → Prop) (m6 : Value → Value → World → Nat),
 L6 (.int .i64 0) (.int .i64 0) w6 ∧
 ∀ (_k6 : Env) (bad7l6 : Value) (v30l6 : Value) (w7 : World), L6 bad7l6 v30l6 w7 →
 pN Tryd.prog (oBin .lss 3 (.tmp 30) (.tmp 29) v30l6 x29) w7 fun x31 w8 =>
 pIf x31
 (∃ I15 : Value → World → Prop,
 (pN Tryd.prog (oIdx 34 x0 v30l6) w8 fun x32 w9 =>
 pN Tryd.prog (oLoad 24 x32) w9 fun x33 w10 =>
 pN Tryd.prog (oAlloc 24) w10 fun x9 w11 =>
 pN Tryd.prog (oStore 24 x9 x33) w11 fun _ w12 =>
 pN Tryd.prog (oLoad 24 x9) w12 fun x35 w13 =>
 pN Tryd.prog (oCall 8 [x35]) w13 fun x36 w14 =>
 pN Tryd.prog (oExt x36 0) w14 fun x37 w15 =>
 pN Tryd.prog (oExt x36 1) w15 fun x38 w16 =>
 pN Tryd.prog (oCall 9 [x38]) w16 fun x40 w17 =>
 pN Tryd.prog (oBin .neq 3 (.tmp 40) (.const (.int .i64 0)) x40 (.int .i64 0)) w17 fun x41 w18 =>
 pIf x41
 (pN Tryd.prog (oBin .eql 3 (.tmp 42) (.const (.int .i64 0)) bad7l6 (.int .i64 0)) w18 fun x43 w19 =>
 pIf x43
 (pN Tryd.prog (oCall 9 [x38]) w19 fun x45 w20 =>
 I15 x45 w20)
 (I15 bad7l6 w19))
 (pN Tryd.prog (oBs 22 0 []) w18 fun x47 w21 =>
 pN Tryd.prog (oBi .append #[22, 22] 22 [false, false] [x47, x37]) w21 fun x49 w22 =>
 pN Tryd.prog (oBs 22 3 [(0, (bv 1)), (1, (bv 2)), (2, (bv 3))]) w22 fun x50 w23 =>
 pN Tryd.prog (oBi .append #[22, 22] 22 [false, false] [x49, x50]) w23 fun x51 w24 =>
 pN Tryd.prog (oCall 11 [x51]) w24 fun x52 w25 =>
 pN Tryd.prog (oExt x52 0) w25 fun x53 w26 =>
 pN Tryd.prog (oExt x52 1) w26 fun x54 w27 =>
 pN Tryd.prog (oExt x52 2) w27 fun x55 w28 =>
 pN Tryd.prog (oAlloc 24) w28 fun x12 w29 =>
 pN Tryd.prog (oStore 24 x12 x53) w29 fun _ w30 =>
 pN Tryd.prog (oLoad 24 x9) w30 fun x56 w31 =>
 pN Tryd.prog (oLoad 24 x12) w31 fun x57 w32 =>
 pN Tryd.prog (oCall 12 [x56, x57]) w32 fun x58 w33 =>
 pN Tryd.prog (oUn .not x58) w33 fun x59 w34 =>
 pGd (gB x59 false) (pN Tryd.prog (oMv x54) w34) w34 fun x61 w35 =>
 pGd (gB x59 false) (pN Tryd.prog (oMv x37) w35) w35 fun x62 w36 =>
 pGd (gB x59 false) (pN Tryd.prog (oBi .len #[22] 3 [false] [x62]) w36) w36 fun x63 w37 =>
 pGd (gB x59 false) (pN Tryd.prog (oBin .neq 3 (.tmp 61) (.tmp 63) x61 x63) w37) w37 fun x64 w38 =>
 pN Tryd.prog (oPick x59 (.bool true) x64) w38 fun x65 w39 =>
 pGd (gB x65 false) (pN Tryd.prog (oMv x54) w39) w39 fun x67 w40 =>
 pGd (gB x65 false) (pN Tryd.prog (oBin .rem 3 (.tmp 67) (.const (.int .i64 512)) x67 (.int .i64 512)) w40) w40 fun x68 w41 =>
 pGd (gB x65 false) (pN Tryd.prog (oBin .neq 3 (.tmp 68) (.const (.int .i64 0)) x68 (.int .i64 0)) w41) w41 fun x69 w42 =>
 pN Tryd.prog (oPick x65 (.bool true) x69) w42 fun x70 w43 =>
 pGd (gB x70 false) (pN Tryd.prog (oMv x55) w43) w43 fun x72 w44 =>
 pGd (gB x70 false) (pN Tryd.prog (oCall 9 [x72]) w44) w44 fun x73 w45 =>
 pGd (gB x70 false) (pN Tryd.prog (oBin .neq 3 (.tmp 73) (.const (.int .i64 0)) x73 (.int .i64 0)) w45) w45 fun x74 w46 =>
 pN Tryd.prog (oPick x70 (.bool true) x74) w46 fun x75 w47 =>
 pIf x75
 (Q (.bool false) w47)
 (I15 bad7l6 w47))) ∧
 ∀ (_j15 : Env) (bad7c15 : Value) (w48 : World), I15 bad7c15 w48 →
 pN Tryd.prog (oBin .add 3 (.tmp 30) (.const (.int .i64 1)) v30l6 (.int .i64 1)) w48 fun x76 w49 =>
 (L6 bad7c15 x76 w49 ∧ m6 bad7c15 x76 w49 < m6 bad7l6 v30l6 w7))
 (pN Tryd.prog (oCall 9 [x27]) w8 fun x78 w50 =>
 pN Tryd.prog (oBin .neq 3 (.tmp 78) (.tmp 79) x78 bad7l6) w50 fun x80 w51 =>
 pIf x80
 (Q (.bool false) w51)
 (pN Tryd.prog (oBin .neq 3 (.tmp 81) (.const (.int .i64 0)) bad7l6 (.int .i64 0)) w51 fun x82 w52 =>
 pIf x82
 (pN Tryd.prog (oBi .len #[22] 3 [false] [x26]) w52 fun x84 w53 =>
 pN Tryd.prog (oBin .eql 3 (.tmp 84) (.const (.int .i64 0)) x84 (.int .i64 0)) w53 fun x85 w54 =>
 pGd (gB x85 true) (pN Tryd.prog (oCall 10 []) w54) w54 fun x87 w55 =>
 pN Tryd.prog (oPick x85 x87 (.bool false)) w55 fun x88 w56 =>
 Q x88 w56)
 (pN Tryd.prog (oCall 19 [x26]) w52 fun x91 w57 =>
 pN Tryd.prog (oExt x91 0) w57 fun x92 w58 =>
 pN Tryd.prog (oExt x91 1) w58 fun x93 w59 =>
 pN Tryd.prog (oCall 21 [x92, x0]) w59 fun x96 w60 =>
 pN Tryd.prog (oUn .not x96) w60 fun x97 w61 =>
 pGd (gB x97 false) (pN Tryd.prog (oMv x93) w61) w61 fun x99 w62 =>
 pGd (gB x97 false) (pN Tryd.prog (oCall 9 [x99]) w62) w62 fun x100 w63 =>
 pGd (gB x97 false) (pN Tryd.prog (oBin .neq 3 (.tmp 100) (.const (.int .i64 0)) x100 (.int .i64 0)) w63) w63 fun x101 w64 =>
 pN Tryd.prog (oPick x97 (.bool true) x101) w64 fun x102 w65 =>
 pGd (gB x102 false) (pN Tryd.prog (oMv x26) w65) w65 fun x104 w66 =>
 pGd (gB x102 false) (pN Tryd.prog (oBi .len #[22] 3 [false] [x104]) w66) w66 fun x105 w67 =>
 pGd (gB x102 false) (pN Tryd.prog (oBin .lss 3 (.tmp 105) (.const (.int .i64 1024)) x105 (.int .i64 1024)) w67) w67 fun x106 w68 =>
 pN Tryd.prog (oPick x102 (.bool true) x106) w68 fun x107 w69 =>
 pGd (gB x107 false) (pN Tryd.prog (oMv x26) w69) w69 fun x109 w70 =>
 pGd (gB x107 false) (pN Tryd.prog (oBi .len #[22] 3 [false] [x109]) w70) w70 fun x110 w71 =>
 pGd (gB x107 false) (pN Tryd.prog (oBin .rem 3 (.tmp 110) (.const (.int .i64 512)) x110 (.int .i64 512)) w71) w71 fun x111 w72 =>
 pGd (gB x107 false) (pN Tryd.prog (oBin .neq 3 (.tmp 111) (.const (.int .i64 0)) x111 (.int .i64 0)) w72) w72 fun x112 w73 =>
 pN Tryd.prog (oPick x107 (.bool true) x112) w73 fun x113 w74 =>
 pIf x113
 (Q (.bool false) w74)
 (pN Tryd.prog (oBi .len #[54] 3 [false] [x1]) w74 fun x115 w75 =>
 ∃ (L24 : Value → World → Prop) (m24 : Value → World → Nat),
 L24 (.int .i64 0) w75 ∧
 ∀ (_k24 : Env) (v116l24 : Value) (w76 : World), L24 v116l24 w76 →
 pN Tryd.prog (oBin .lss 3 (.tmp 116) (.tmp 115) v116l24 x115) w76 fun x117 w77 =>
 pIf x117
 (∃ I30 : World → Prop,
 (pN Tryd.prog (oIdx 54 x1 v116l24) w77 fun x118 w78 =>
 pN Tryd.prog (oLoad 3 x118) w78 fun x119 w79 =>
 pN Tryd.prog (oBin .lss 3 (.tmp 120) (.const (.int .i64 0)) x119 (.int .i64 0)) w79 fun x121 w80 =>
 pGd (gB x121 false) (pN Tryd.prog (oMv x119) w80) w80 fun x123 w81 =>
 pGd (gB x121 false) (pN Tryd.prog (oMv x26) w81) w81 fun x124 w82 =>
 pGd (gB x121 false) (pN Tryd.prog (oBi .len #[22] 3 [false] [x124]) w82) w82 fun x125 w83 =>
 pGd (gB x121 false) (pN Tryd.prog (oBin .geq 3 (.tmp 123) (.tmp 125) x123 x125) w83) w83 fun x126 w84 =>
 pN Tryd.prog (oPick x121 (.bool true) x126) w84 fun x127 w85 =>
 pIf x127
 (I30 w85)
 (pN Tryd.prog (oSl 22 x26 none (some x119) none) w85 fun x131 w86 =>
 pN Tryd.prog (oCall 19 [x131]) w86 fun x132 w87 =>
 pN Tryd.prog (oExt x132 0) w87 fun x133 w88 =>
 pN Tryd.prog (oExt x132 1) w88 fun x134 w89 =>
 pN Tryd.prog (oBi .len #[34] 3 [false] [x133]) w89 fun x136 w90 =>
 pN Tryd.prog (oBin .neq 3 (.tmp 136) (.const (.int .i64 0)) x136 (.int .i64 0)) w90 fun x137 w91 =>
 pGd (gB x137 false) (pN Tryd.prog (oMv x134) w91) w91 fun x139 w92 =>
 pGd (gB x137 false) (pN Tryd.prog (oCall 9 [x139]) w92) w92 fun x140 w93 =>
 pGd (gB x137 false) (pN Tryd.prog (oBin .neq 3 (.tmp 140) (.const (.int .i64 1)) x140 (.int .i64 1)) w93) w93 fun x141 w94 =>
 pN Tryd.prog (oPick x137 (.bool true) x141) w94 fun x142 w95 =>
 pIf x142
 (Q (.bool false) w95)
 (I30 w95))) ∧
 ∀ (_j30 : Env) (w96 : World), I30 w96 →
 pN Tryd.prog (oBin .add 3 (.tmp 116) (.const (.int .i64 1)) v116l24 (.int .i64 1)) w96 fun x143 w97 =>
 (L24 x143 w97 ∧ m24 x143 w97 < m24 v116l24 w76))
 (pN Tryd.prog (oCall 10 []) w77 fun x144 w98 =>
 Q x144 w98))))))
noncomputable def pithlaw33_TarBack.c : Code := match Tryd.f5.body with | some c => c | none => .skip
theorem pithlaw33_TarBack.eq [Pan] (x0 : Value) (x1 : Value) (w : World) (Q : Value → World → Prop) : cw Tryd.prog pithlaw33_TarBack.H pithlaw33_TarBack.c (endQ Tryd.prog Tryd.f5.results.toList Q) (argsE [x0, x1]) w = pithlaw33_TarBack.F x0 x1 w Q := by kernel_rfl
theorem pithlaw33_TarBack.calls [Pan] {x0 : Value} {x1 : Value} {w : World} {Q : Value → World → Prop} (h : pithlaw33_TarBack.F x0 x1 w Q) : Calls Tryd.prog 5 #[x0, x1] w (retP Q) :=
  calls_of_cw (H := pithlaw33_TarBack.H) (c := pithlaw33_TarBack.c) (args := [x0, x1]) mixed Tryd.func5 (by kernel_rfl) (by kernel_rfl) (Nat.le_of_ble_eq_true (by kernel_rfl)) ((pithlaw33_TarBack.eq x0 x1 w Q).mpr h)

/-! pithlaw33_TarSole: pith/pithlaw33.TarSole; temporaries: 0:b 1:b 3:l 4:e 5:p 6:f 7:x 8:n 9:p 10:f -/
def pithlaw33_TarSole.H : Hints := { cut := fun | 8 => some ([], 137438888036) | _ => none, loop := fun  | _ => ([], 0), order := fun | 12 => [(0, 0), (1, 1), (2, 3), (3, 7), (4, 15), (5, 31), (6, 63), (7, 127), (8, 255), (9, 511), (10, 1023), (11, 2047), (12, 4095), (13, 8191), (14, 16383), (15, 32767), (16, 65535), (17, 131071), (18, 262143), (19, 524287), (20, 1048575), (21, 2097151), (22, 4194303), (23, 8388607), (24, 16777215)] | _ => [] }
def pithlaw33_TarSole.F [Pan] (x0 : Value) (w : World) (Q : Value → World → Prop) : Prop :=
 pN Tryd.prog (oCall 19 [x0]) w fun x13 w1 =>
 pN Tryd.prog (oExt x13 0) w1 fun x14 w2 =>
 pN Tryd.prog (oExt x13 1) w2 fun x15 w3 =>
 ∃ I8 : World → Prop,
 (pN Tryd.prog (oCall 9 [x15]) w3 fun x17 w4 =>
 pN Tryd.prog (oBin .eql 3 (.tmp 17) (.const (.int .i64 0)) x17 (.int .i64 0)) w4 fun x18 w5 =>
 pIf x18
 (pN Tryd.prog (oCall 15 [x14]) w5 fun x21 w6 =>
 pN Tryd.prog (oExt x21 0) w6 fun x22 w7 =>
 pN Tryd.prog (oExt x21 1) w7 fun x23 w8 =>
 pN Tryd.prog (oCall 9 [x23]) w8 fun x25 w9 =>
 pN Tryd.prog (oBin .neq 3 (.tmp 25) (.const (.int .i64 0)) x25 (.int .i64 0)) w9 fun x26 w10 =>
 pGd (gB x26 false) (pN Tryd.prog (oMv x22) w10) w10 fun x28 w11 =>
 pGd (gB x26 false) (pN Tryd.prog (oConv 22 9 x28) w11) w11 fun x29 w12 =>
 pGd (gB x26 false) (pN Tryd.prog (oMv x0) w12) w12 fun x30 w13 =>
 pGd (gB x26 false) (pN Tryd.prog (oConv 22 9 x30) w13) w13 fun x31 w14 =>
 pGd (gB x26 false) (pN Tryd.prog (oBin .neq 9 (.tmp 29) (.tmp 31) x29 x31) w14) w14 fun x32 w15 =>
 pN Tryd.prog (oPick x26 (.bool true) x32) w15 fun x33 w16 =>
 pIf x33
 (Q (.bool false) w16)
 (I8 w16))
 (pN Tryd.prog (oBi .len #[34] 3 [false] [x14]) w5 fun x35 w17 =>
 pN Tryd.prog (oBin .neq 3 (.tmp 35) (.const (.int .i64 0)) x35 (.int .i64 0)) w17 fun x36 w18 =>
 pIf x36
 (Q (.bool false) w18)
 (I8 w18))) ∧
 ∀ (_j8 : Env) (w19 : World), I8 w19 →
 pN Tryd.prog (oCall 11 [x0]) w19 fun x39 w20 =>
 pN Tryd.prog (oExt x39 0) w20 fun x40 w21 =>
 pN Tryd.prog (oExt x39 1) w21 fun x41 w22 =>
 pN Tryd.prog (oExt x39 2) w22 fun x42 w23 =>
 pN Tryd.prog (oAlloc 24) w23 fun x7 w24 =>
 pN Tryd.prog (oStore 24 x7 x40) w24 fun _ w25 =>
 pN Tryd.prog (oCall 9 [x42]) w25 fun x44 w26 =>
 pN Tryd.prog (oBin .neq 3 (.tmp 44) (.const (.int .i64 0)) x44 (.int .i64 0)) w26 fun x45 w27 =>
 pIf x45
 (pN Tryd.prog (oBin .eql 3 (.tmp 46) (.const (.int .i64 0)) x41 (.int .i64 0)) w27 fun x47 w28 =>
 pGd (gB x47 true) (pN Tryd.prog (oLoad 24 x7) w28) w28 fun x49 w29 =>
 pGd (gB x47 true) (pN Tryd.prog (oBuild 24 []) w29) w29 fun x50 w30 =>
 pGd (gB x47 true) (pN Tryd.prog (oCall 12 [x49, x50]) w30) w30 fun x51 w31 =>
 pN Tryd.prog (oPick x47 x51 (.bool false)) w31 fun x52 w32 =>
 pGd (gB x52 true) (pN Tryd.prog (oMv x42) w32) w32 fun x54 w33 =>
 pGd (gB x52 true) (pN Tryd.prog (oCall 9 [x54]) w33) w33 fun x55 w34 =>
 pGd (gB x52 true) (pN Tryd.prog (oBin .eql 3 (.tmp 55) (.const (.int .i64 1)) x55 (.int .i64 1)) w34) w34 fun x56 w35 =>
 pGd (gB x52 true) (pN Tryd.prog (oMv x56) w35) w35 fun x57 w36 =>
 pGd (gB x57 false) (pN Tryd.prog (oMv x42) w36) w36 fun x58 w37 =>
 pGd (gB x57 false) (pN Tryd.prog (oCall 9 [x58]) w37) w37 fun x59 w38 =>
 pGd (gB x57 false) (pN Tryd.prog (oBin .eql 3 (.tmp 59) (.const (.int .i64 2)) x59 (.int .i64 2)) w38) w38 fun x60 w39 =>
 pGd (gB x52 true) (pN Tryd.prog (oPick x57 (.bool true) x60) w39) w39 fun x61 w40 =>
 pGd (gB x52 true) (pN Tryd.prog (oMv x61) w40) w40 fun x62 w41 =>
 pGd (gB x62 false) (pN Tryd.prog (oMv x42) w41) w41 fun x63 w42 =>
 pGd (gB x62 false) (pN Tryd.prog (oCall 9 [x63]) w42) w42 fun x64 w43 =>
 pGd (gB x62 false) (pN Tryd.prog (oBin .eql 3 (.tmp 64) (.const (.int .i64 3)) x64 (.int .i64 3)) w43) w43 fun x65 w44 =>
 pGd (gB x52 true) (pN Tryd.prog (oPick x62 (.bool true) x65) w44) w44 fun x66 w45 =>
 pN Tryd.prog (oPick x52 x66 (.bool false)) w45 fun x67 w46 =>
 pGd (gB x67 true) (pN Tryd.prog (oCall 10 []) w46) w46 fun x69 w47 =>
 pN Tryd.prog (oPick x67 x69 (.bool false)) w47 fun x70 w48 =>
 Q x70 w48)
 (pN Tryd.prog (oLoad 24 x7) w27 fun x72 w49 =>
 pN Tryd.prog (oCall 8 [x72]) w49 fun x73 w50 =>
 pN Tryd.prog (oExt x73 0) w50 fun x74 w51 =>
 pN Tryd.prog (oExt x73 1) w51 fun x75 w52 =>
 pDr w52 fun w53 =>
 pN Tryd.prog (oCall 9 [x75]) w53 fun x77 w54 =>
 (True) ∧ (pA Tryd.prog (oBin .eql 3 (.tmp 77) (.const (.int .i64 0)) x77 (.int .i64 0)) fun x78 =>
 gA (gB x78 true) (pA Tryd.prog (oMv x41)) fun x80 =>
 gA (gB x78 true) (pA Tryd.prog (oMv x74)) fun x81 =>
 gA (gB x78 true) (pA Tryd.prog (oBi .len #[22] 3 [false] [x81])) fun x82 =>
 gA (gB x78 true) (pA Tryd.prog (oBin .eql 3 (.tmp 80) (.tmp 82) x80 x82)) fun x83 =>
 pA Tryd.prog (oPick x78 x83 (.bool false)) fun x84 =>
 gA (gB x84 true) (pA Tryd.prog (oMv x41)) fun x86 =>
 gA (gB x84 true) (pA Tryd.prog (oMv x0)) fun x87 =>
 gA (gB x84 true) (pA Tryd.prog (oBi .len #[22] 3 [false] [x87])) fun x88 =>
 gA (gB x84 true) (pA Tryd.prog (oBin .leq 3 (.tmp 86) (.tmp 88) x86 x88)) fun x89 =>
 pA Tryd.prog (oPick x84 x89 (.bool false)) fun x90 =>
 gA (gB x90 true) (pA Tryd.prog (oMv x74)) fun x92 =>
 gA (gB x90 true) (pL Tryd.prog (oConv 22 9 x92) w54) fun x93 =>
 gA (gB x90 true) (pA Tryd.prog (oMv x0)) fun x94 =>
 gA (gB x90 true) (pA Tryd.prog (oMv x41)) fun x95 =>
 gA (gB x90 true) (pA Tryd.prog (oSl 22 x94 none (some x95) none)) fun x96 =>
 gA (gB x90 true) (pL Tryd.prog (oConv 22 9 x96) w54) fun x97 =>
 gA (gB x90 true) (pA Tryd.prog (oBin .eql 9 (.tmp 93) (.tmp 97) x93 x97)) fun x98 =>
 pA Tryd.prog (oPick x90 x98 (.bool false)) fun x99 =>
 Q x99 w54))
noncomputable def pithlaw33_TarSole.c : Code := match Tryd.f6.body with | some c => c | none => .skip
theorem pithlaw33_TarSole.eq [Pan] (x0 : Value) (w : World) (Q : Value → World → Prop) : cw Tryd.prog pithlaw33_TarSole.H pithlaw33_TarSole.c (endQ Tryd.prog Tryd.f6.results.toList Q) (argsE [x0]) w = pithlaw33_TarSole.F x0 w Q := by kernel_rfl
theorem pithlaw33_TarSole.calls [Pan] {x0 : Value} {w : World} {Q : Value → World → Prop} (h : pithlaw33_TarSole.F x0 w Q) : Calls Tryd.prog 6 #[x0] w (retP Q) :=
  calls_of_cw (H := pithlaw33_TarSole.H) (c := pithlaw33_TarSole.c) (args := [x0]) mixed Tryd.func6 (by kernel_rfl) (by kernel_rfl) (Nat.le_of_ble_eq_true (by kernel_rfl)) ((pithlaw33_TarSole.eq x0 w Q).mpr h)

/-! pithlaw33_num: pith/pithlaw33.num; temporaries: 0:e 1:e -/
def pithlaw33_num.H : Hints := { cut := fun  | _ => none, loop := fun  | _ => ([], 0), order := fun  | _ => [] }
def pithlaw33_num.F [Pan] (x0 : Value) (w : World) (Q : Value → World → Prop) : Prop :=
 Q x0 w
noncomputable def pithlaw33_num.c : Code := match Tryd.f9.body with | some c => c | none => .skip
theorem pithlaw33_num.eq [Pan] (x0 : Value) (w : World) (Q : Value → World → Prop) : cw Tryd.prog pithlaw33_num.H pithlaw33_num.c (endQ Tryd.prog Tryd.f9.results.toList Q) (argsE [x0]) w = pithlaw33_num.F x0 w Q := by kernel_rfl
theorem pithlaw33_num.calls [Pan] {x0 : Value} {w : World} {Q : Value → World → Prop} (h : pithlaw33_num.F x0 w Q) : Calls Tryd.prog 9 #[x0] w (retP Q) :=
  calls_of_cw (H := pithlaw33_num.H) (c := pithlaw33_num.c) (args := [x0]) mixed Tryd.func9 (by kernel_rfl) (by kernel_rfl) (Nat.le_of_ble_eq_true (by kernel_rfl)) ((pithlaw33_num.eq x0 w Q).mpr h)

/-! pithlaw33_known: pith/pithlaw33.known; temporaries: 1:b 2:e 3:z 4:f 5:_ 6:g -/
def pithlaw33_known.H : Hints := { cut := fun  | _ => none, loop := fun  | _ => ([], 0), order := fun | 4 => [(0, 0), (1, 1), (2, 3), (3, 7), (4, 15), (5, 31), (6, 63), (7, 127), (8, 255), (9, 511), (10, 1023), (11, 2047), (12, 4095), (13, 8191), (14, 16383), (15, 32767), (16, 65535), (17, 131071), (18, 262143), (19, 524287), (20, 1048575), (21, 2097151), (22, 4194303), (23, 8388607), (24, 16777215), (25, 33554431), (26, 67108863), (27, 134217727), (28, 268435455), (29, 536870911), (30, 1073741823), (31, 2147483647)] | _ => [] }
def pithlaw33_known.F [Pan]  (w : World) (Q : Value → World → Prop) : Prop :=
 pN Tryd.prog (oBs 22 5 [(0, (bv 104)), (1, (bv 101)), (2, (bv 108)), (3, (bv 108)), (4, (bv 111))]) w fun x8 w1 =>
 pN Tryd.prog (oConv 22 22 x8) w1 fun x9 w2 =>
 pN Tryd.prog (oBuild 24 [(0, (.string ⟨#[97]⟩)), (3, (.int .i64 420)), (4, (.int .i64 1)), (5, x9)]) w2 fun x10 w3 =>
 pN Tryd.prog (oCall 8 [x10]) w3 fun x11 w4 =>
 pN Tryd.prog (oExt x11 0) w4 fun x12 w5 =>
 pN Tryd.prog (oExt x11 1) w5 fun x13 w6 =>
 pN Tryd.prog (oCall 15 [(.slice none 0 0)]) w6 fun x15 w7 =>
 pN Tryd.prog (oExt x15 0) w7 fun x16 w8 =>
 pN Tryd.prog (oExt x15 1) w8 fun x17 w9 =>
 pN Tryd.prog (oBuild 24 []) w9 fun x19 w10 =>
 pN Tryd.prog (oCall 8 [x19]) w10 fun x20 w11 =>
 pN Tryd.prog (oExt x20 0) w11 fun _ w12 =>
 pN Tryd.prog (oExt x20 1) w12 fun x22 w13 =>
 pDr w13 fun w14 =>
 pN Tryd.prog (oCall 9 [x13]) w14 fun x24 w15 =>
 (True) ∧ (pA Tryd.prog (oBin .eql 3 (.tmp 24) (.const (.int .i64 0)) x24 (.int .i64 0)) fun x25 =>
 gA (gB x25 true) (pA Tryd.prog (oMv x12)) fun x27 =>
 gA (gB x25 true) (pA Tryd.prog (oBi .len #[22] 3 [false] [x27])) fun x28 =>
 gA (gB x25 true) (pA Tryd.prog (oBin .eql 3 (.tmp 28) (.const (.int .i64 1024)) x28 (.int .i64 1024))) fun x29 =>
 pA Tryd.prog (oPick x25 x29 (.bool false)) fun x30 =>
 gA (gB x30 true) (pA Tryd.prog (oMv x12)) fun x32 =>
 gA (gB x30 true) (pA Tryd.prog (oSl 22 x32 (some (.int .i64 148)) (some (.int .i64 157)) none)) fun x33 =>
 gA (gB x30 true) (pL Tryd.prog (oConv 22 9 x33) w15) fun x34 =>
 gA (gB x30 true) (pA Tryd.prog (oBin .eql 9 (.tmp 34) (.const (.string ⟨#[48, 48, 55, 51, 52, 52, 0, 32, 48]⟩)) x34 (.string ⟨#[48, 48, 55, 51, 52, 52, 0, 32, 48]⟩))) fun x35 =>
 pA Tryd.prog (oPick x30 x35 (.bool false)) fun x36 =>
 gA (gB x36 true) (pA Tryd.prog (oMv x17)) fun x38 =>
 pGd (gB x36 true) (pN Tryd.prog (oCall 9 [x38]) w15) w15 fun x39 w16 =>
 (True) ∧ (gA (gB x36 true) (pA Tryd.prog (oBin .eql 3 (.tmp 39) (.const (.int .i64 0)) x39 (.int .i64 0))) fun x40 =>
 pA Tryd.prog (oPick x36 x40 (.bool false)) fun x41 =>
 gA (gB x41 true) (pA Tryd.prog (oMv x16)) fun x43 =>
 gA (gB x41 true) (pL Tryd.prog (oConv 22 9 x43) w16) fun x44 =>
 pGd (gB x41 true) (pN Tryd.prog (oMk 22 (.int .i64 1024) (.int .i64 1024)) w16) w16 fun x45 w17 =>
 ((((gB x41 true) = true → Sem.run Tryd.prog (oConv 22 9 x43) w17 = .ok (.value x44) w17)) ∧ True) ∧ (gA (gB x41 true) (pL Tryd.prog (oConv 22 9 x45) w17) fun x46 =>
 gA (gB x41 true) (pA Tryd.prog (oBin .eql 9 (.tmp 44) (.tmp 46) x44 x46)) fun x47 =>
 pA Tryd.prog (oPick x41 x47 (.bool false)) fun x48 =>
 gA (gB x48 true) (pA Tryd.prog (oMv x22)) fun x50 =>
 pGd (gB x48 true) (pN Tryd.prog (oCall 9 [x50]) w17) w17 fun x51 w18 =>
 (True) ∧ (gA (gB x48 true) (pA Tryd.prog (oBin .eql 3 (.tmp 51) (.const (.int .i64 8)) x51 (.int .i64 8))) fun x52 =>
 pA Tryd.prog (oPick x48 x52 (.bool false)) fun x53 =>
 Q x53 w18))))
noncomputable def pithlaw33_known.c : Code := match Tryd.f10.body with | some c => c | none => .skip
theorem pithlaw33_known.eq [Pan]  (w : World) (Q : Value → World → Prop) : cw Tryd.prog pithlaw33_known.H pithlaw33_known.c (endQ Tryd.prog Tryd.f10.results.toList Q) (argsE []) w = pithlaw33_known.F  w Q := by kernel_rfl
theorem pithlaw33_known.calls [Pan]  {w : World} {Q : Value → World → Prop} (h : pithlaw33_known.F  w Q) : Calls Tryd.prog 10 #[] w (retP Q) :=
  calls_of_cw (H := pithlaw33_known.H) (c := pithlaw33_known.c) (args := []) mixed Tryd.func10 (by kernel_rfl) (by kernel_rfl) (Nat.le_of_ble_eq_true (by kernel_rfl)) ((pithlaw33_known.eq  w Q).mpr h)

/-! pithlaw33_same: pith/pithlaw33.same; temporaries: 0:x 1:y 2:x 3:y -/
def pithlaw33_same.H : Hints := { cut := fun  | _ => none, loop := fun  | _ => ([], 0), order := fun  | _ => [] }
def pithlaw33_same.F [Pan] (x0 : Value) (x1 : Value) (w : World) (Q : Value → World → Prop) : Prop :=
 pN Tryd.prog (oBox 24 x0) w fun x2 w1 =>
 pN Tryd.prog (oBox 24 x1) w1 fun x3 w2 =>
 pN Tryd.prog (oFld 24 x2 0) w2 fun x5 w3 =>
 pN Tryd.prog (oLoad 9 x5) w3 fun x6 w4 =>
 pN Tryd.prog (oFld 24 x3 0) w4 fun x7 w5 =>
 pN Tryd.prog (oLoad 9 x7) w5 fun x8 w6 =>
 pN Tryd.prog (oBin .eql 9 (.tmp 6) (.tmp 8) x6 x8) w6 fun x9 w7 =>
 pGd (gB x9 true) (pN Tryd.prog (oFld 24 x2 1) w7) w7 fun x11 w8 =>
 pGd (gB x9 true) (pN Tryd.prog (oLoad 9 x11) w8) w8 fun x12 w9 =>
 pGd (gB x9 true) (pN Tryd.prog (oFld 24 x3 1) w9) w9 fun x13 w10 =>
 pGd (gB x9 true) (pN Tryd.prog (oLoad 9 x13) w10) w10 fun x14 w11 =>
 pGd (gB x9 true) (pN Tryd.prog (oBin .eql 9 (.tmp 12) (.tmp 14) x12 x14) w11) w11 fun x15 w12 =>
 pN Tryd.prog (oPick x9 x15 (.bool false)) w12 fun x16 w13 =>
 pGd (gB x16 true) (pN Tryd.prog (oFld 24 x2 2) w13) w13 fun x18 w14 =>
 pGd (gB x16 true) (pN Tryd.prog (oLoad 3 x18) w14) w14 fun x19 w15 =>
 pGd (gB x16 true) (pN Tryd.prog (oFld 24 x3 2) w15) w15 fun x20 w16 =>
 pGd (gB x16 true) (pN Tryd.prog (oLoad 3 x20) w16) w16 fun x21 w17 =>
 pGd (gB x16 true) (pN Tryd.prog (oBin .eql 3 (.tmp 19) (.tmp 21) x19 x21) w17) w17 fun x22 w18 =>
 pN Tryd.prog (oPick x16 x22 (.bool false)) w18 fun x23 w19 =>
 pGd (gB x23 true) (pN Tryd.prog (oFld 24 x2 3) w19) w19 fun x25 w20 =>
 pGd (gB x23 true) (pN Tryd.prog (oLoad 3 x25) w20) w20 fun x26 w21 =>
 pGd (gB x23 true) (pN Tryd.prog (oFld 24 x3 3) w21) w21 fun x27 w22 =>
 pGd (gB x23 true) (pN Tryd.prog (oLoad 3 x27) w22) w22 fun x28 w23 =>
 pGd (gB x23 true) (pN Tryd.prog (oBin .eql 3 (.tmp 26) (.tmp 28) x26 x28) w23) w23 fun x29 w24 =>
 pN Tryd.prog (oPick x23 x29 (.bool false)) w24 fun x30 w25 =>
 pGd (gB x30 true) (pN Tryd.prog (oFld 24 x2 4) w25) w25 fun x32 w26 =>
 pGd (gB x30 true) (pN Tryd.prog (oLoad 3 x32) w26) w26 fun x33 w27 =>
 pGd (gB x30 true) (pN Tryd.prog (oFld 24 x3 4) w27) w27 fun x34 w28 =>
 pGd (gB x30 true) (pN Tryd.prog (oLoad 3 x34) w28) w28 fun x35 w29 =>
 pGd (gB x30 true) (pN Tryd.prog (oBin .eql 3 (.tmp 33) (.tmp 35) x33 x35) w29) w29 fun x36 w30 =>
 pN Tryd.prog (oPick x30 x36 (.bool false)) w30 fun x37 w31 =>
 pGd (gB x37 true) (pN Tryd.prog (oFld 24 x2 5) w31) w31 fun x39 w32 =>
 pGd (gB x37 true) (pN Tryd.prog (oLoad 22 x39) w32) w32 fun x40 w33 =>
 pGd (gB x37 true) (pN Tryd.prog (oConv 22 9 x40) w33) w33 fun x41 w34 =>
 pGd (gB x37 true) (pN Tryd.prog (oFld 24 x3 5) w34) w34 fun x42 w35 =>
 pGd (gB x37 true) (pN Tryd.prog (oLoad 22 x42) w35) w35 fun x43 w36 =>
 pGd (gB x37 true) (pN Tryd.prog (oConv 22 9 x43) w36) w36 fun x44 w37 =>
 pGd (gB x37 true) (pN Tryd.prog (oBin .eql 9 (.tmp 41) (.tmp 44) x41 x44) w37) w37 fun x45 w38 =>
 pN Tryd.prog (oPick x37 x45 (.bool false)) w38 fun x46 w39 =>
 Q x46 w39
noncomputable def pithlaw33_same.c : Code := match Tryd.f12.body with | some c => c | none => .skip
theorem pithlaw33_same.eq [Pan] (x0 : Value) (x1 : Value) (w : World) (Q : Value → World → Prop) : cw Tryd.prog pithlaw33_same.H pithlaw33_same.c (endQ Tryd.prog Tryd.f12.results.toList Q) (argsE [x0, x1]) w = pithlaw33_same.F x0 x1 w Q := by kernel_rfl
theorem pithlaw33_same.calls [Pan] {x0 : Value} {x1 : Value} {w : World} {Q : Value → World → Prop} (h : pithlaw33_same.F x0 x1 w Q) : Calls Tryd.prog 12 #[x0, x1] w (retP Q) :=
  calls_of_cw (H := pithlaw33_same.H) (c := pithlaw33_same.c) (args := [x0, x1]) mixed Tryd.func12 (by kernel_rfl) (by kernel_rfl) (Nat.le_of_ble_eq_true (by kernel_rfl)) ((pithlaw33_same.eq x0 x1 w Q).mpr h)

/-! pithlaw33_room: pith/pithlaw33.room; temporaries: 0:l 1:l 4:r 5:_ 6:x 7:d -/
def pithlaw33_room.H : Hints := { cut := fun  | _ => none, loop := fun | 3 => ([12], 562949953417408) | _ => ([], 0), order := fun | 8 => [(0, 0), (1, 1), (2, 3), (3, 7), (4, 15), (5, 31), (6, 63), (7, 127), (8, 255), (9, 511), (10, 1023)] | _ => [] }
def pithlaw33_room.F [Pan] (x0 : Value) (w : World) (Q : Value → World → Prop) : Prop :=
 pN Tryd.prog (oBuild 75 []) w fun x8 w1 =>
 pN Tryd.prog (oBox 75 x8) w1 fun x9 w2 =>
 pN Tryd.prog (oBi .len #[34] 3 [false] [x0]) w2 fun x11 w3 =>
 ∃ (L3 : Value → World → Prop) (m3 : Value → World → Nat),
 L3 (.int .i64 0) w3 ∧
 ∀ (_k3 : Env) (v12l3 : Value) (w4 : World), L3 v12l3 w4 →
 pN Tryd.prog (oBin .lss 3 (.tmp 12) (.tmp 11) v12l3 x11) w4 fun x13 w5 =>
 pIf x13
 (pN Tryd.prog (oIdx 34 x0 v12l3) w5 fun x14 w6 =>
 pN Tryd.prog (oLoad 24 x14) w6 fun x15 w7 =>
 pN Tryd.prog (oAlloc 24) w7 fun x6 w8 =>
 pN Tryd.prog (oStore 24 x6 x15) w8 fun _ w9 =>
 pN Tryd.prog (oBs 22 0 []) w9 fun x16 w10 =>
 pN Tryd.prog (oFld 24 x6 5) w10 fun x17 w11 =>
 pN Tryd.prog (oLoad 22 x17) w11 fun x18 w12 =>
 pN Tryd.prog (oBi .append #[22, 22] 22 [false, false] [x16, x18]) w12 fun x19 w13 =>
 pN Tryd.prog (oBs 22 1 [(0, (bv 45))]) w13 fun x20 w14 =>
 pN Tryd.prog (oBi .append #[22, 22] 22 [false, false] [x19, x20]) w14 fun x21 w15 =>
 pN Tryd.prog (oNil x9) w15 fun x24 w16 =>
 pN Tryd.prog (oFld 75 x24 1) w16 fun x25 w17 =>
 pN Tryd.prog (oLoad 57 x25) w17 fun x26 w18 =>
 pN Tryd.prog (oBs 57 1 [(0, x21)]) w18 fun x28 w19 =>
 pN Tryd.prog (oBi .append #[57, 57] 57 [false, false] [x26, x28]) w19 fun x29 w20 =>
 pN Tryd.prog (oNil x9) w20 fun x30 w21 =>
 pN Tryd.prog (oFld 75 x30 1) w21 fun x31 w22 =>
 pN Tryd.prog (oStore 57 x31 x29) w22 fun _ w23 =>
 pN Tryd.prog (oFld 24 x6 5) w23 fun x33 w24 =>
 pN Tryd.prog (oLoad 22 x33) w24 fun x34 w25 =>
 pN Tryd.prog (oBi .len #[22] 3 [false] [x34]) w25 fun x35 w26 =>
 pN Tryd.prog (oSl 22 x21 none (some x35) none) w26 fun x36 w27 =>
 pN Tryd.prog (oFld 24 x6 5) w27 fun x37 w28 =>
 pN Tryd.prog (oStore 22 x37 x36) w28 fun _ w29 =>
 pDr w29 fun w30 =>
 pA Tryd.prog (oNil x9) fun x40 =>
 pA Tryd.prog (oFld 75 x40 0) fun x41 =>
 pL Tryd.prog (oLoad 34 x41) w30 fun x42 =>
 pL Tryd.prog (oLoad 24 x6) w30 fun x43 =>
 pN Tryd.prog (oBs 34 1 [(0, x43)]) w30 fun x44 w31 =>
 ((Sem.run Tryd.prog (oLoad 34 x41) w31 = .ok (.value x42) w31) ∧ True) ∧ (pN Tryd.prog (oBi .append #[34, 34] 34 [false, false] [x42, x44]) w31 fun x45 w32 =>
 (True) ∧ (pA Tryd.prog (oNil x9) fun x46 =>
 pA Tryd.prog (oFld 75 x46 0) fun x47 =>
 pN Tryd.prog (oStore 34 x47 x45) w32 fun _ w33 =>
 (True) ∧ (pN Tryd.prog (oBin .add 3 (.tmp 12) (.const (.int .i64 1)) v12l3 (.int .i64 1)) w33 fun x48 w34 =>
 (L3 x48 w34 ∧ m3 x48 w34 < m3 v12l3 w4)))))
 (pN Tryd.prog (oNil x9) w5 fun x51 w35 =>
 pN Tryd.prog (oFld 75 x51 0) w35 fun x52 w36 =>
 pN Tryd.prog (oLoad 34 x52) w36 fun x53 w37 =>
 pN Tryd.prog (oBuild 24 [(0, (.string ⟨#[109, 105, 110, 101]⟩))]) w37 fun x54 w38 =>
 pN Tryd.prog (oBs 34 1 [(0, x54)]) w38 fun x55 w39 =>
 pN Tryd.prog (oBi .append #[34, 34] 34 [false, false] [x53, x55]) w39 fun x56 w40 =>
 pN Tryd.prog (oNil x9) w40 fun x57 w41 =>
 pN Tryd.prog (oFld 75 x57 0) w41 fun x58 w42 =>
 pN Tryd.prog (oStore 34 x58 x56) w42 fun _ w43 =>
 pN Tryd.prog (oNil x9) w43 fun x60 w44 =>
 pN Tryd.prog (oFld 75 x60 0) w44 fun x61 w45 =>
 pN Tryd.prog (oLoad 34 x61) w45 fun x62 w46 =>
 pN Tryd.prog (oBi .len #[34] 3 [false] [x0]) w46 fun x64 w47 =>
 pN Tryd.prog (oSl 34 x62 none (some x64) none) w47 fun x65 w48 =>
 Q (.tuple #[x65, x9]) w48)
noncomputable def pithlaw33_room.c : Code := match Tryd.f13.body with | some c => c | none => .skip
theorem pithlaw33_room.eq [Pan] (x0 : Value) (w : World) (Q : Value → World → Prop) : cw Tryd.prog pithlaw33_room.H pithlaw33_room.c (endQ Tryd.prog Tryd.f13.results.toList Q) (argsE [x0]) w = pithlaw33_room.F x0 w Q := by kernel_rfl
theorem pithlaw33_room.calls [Pan] {x0 : Value} {w : World} {Q : Value → World → Prop} (h : pithlaw33_room.F x0 w Q) : Calls Tryd.prog 13 #[x0] w (retP Q) :=
  calls_of_cw (H := pithlaw33_room.H) (c := pithlaw33_room.c) (args := [x0]) mixed Tryd.func13 (by kernel_rfl) (by kernel_rfl) (Nat.le_of_ble_eq_true (by kernel_rfl)) ((pithlaw33_room.eq x0 w Q).mpr h)

/-! pithlaw33_Room_kept: (*pith/pithlaw33.Room).kept; temporaries: 0:r 1:l 2:r 3:l 5:i 6:x 7:d -/
def pithlaw33_Room_kept.H : Hints := { cut := fun  | _ => none, loop := fun | 2 => ([10], 18014398509481200) | _ => ([], 0), order := fun | 5 => [(0, 0), (1, 1), (2, 3), (3, 7), (4, 15), (5, 31), (6, 63), (7, 127), (8, 255), (9, 511), (10, 1023), (11, 2047), (12, 4095), (13, 8191), (14, 16383), (15, 32767), (16, 65535), (17, 131071), (18, 262143), (19, 524287), (20, 1048575), (21, 2097151), (22, 4194303), (23, 8388607), (24, 16777215), (25, 33554431), (26, 67108863), (27, 134217727), (28, 268435455), (29, 536870911), (30, 1073741823)] | _ => [] }
def pithlaw33_Room_kept.F [Pan] (x0 : Value) (x1 : Value) (w : World) (Q : Value → World → Prop) : Prop :=
 pN Tryd.prog (oBi .len #[34] 3 [false] [x1]) w fun x9 w1 =>
 ∃ (L2 : Value → World → Prop) (m2 : Value → World → Nat),
 L2 (.int .i64 0) w1 ∧
 ∀ (_k2 : Env) (v10l2 : Value) (w2 : World), L2 v10l2 w2 →
 pN Tryd.prog (oBin .lss 3 (.tmp 10) (.tmp 9) v10l2 x9) w2 fun x11 w3 =>
 pIf x11
 (pN Tryd.prog (oIdx 34 x1 v10l2) w3 fun x13 w4 =>
 pN Tryd.prog (oLoad 24 x13) w4 fun x14 w5 =>
 pN Tryd.prog (oAlloc 24) w5 fun x6 w6 =>
 pN Tryd.prog (oStore 24 x6 x14) w6 fun _ w7 =>
 pN Tryd.prog (oNil x0) w7 fun x16 w8 =>
 pN Tryd.prog (oFld 75 x16 1) w8 fun x17 w9 =>
 pN Tryd.prog (oLoad 57 x17) w9 fun x18 w10 =>
 pN Tryd.prog (oIdx 57 x18 v10l2) w10 fun x20 w11 =>
 pN Tryd.prog (oLoad 22 x20) w11 fun x21 w12 =>
 pDr w12 fun w13 =>
 pA Tryd.prog (oNil x0) fun x23 =>
 pA Tryd.prog (oFld 75 x23 0) fun x24 =>
 pL Tryd.prog (oLoad 34 x24) w13 fun x25 =>
 pA Tryd.prog (oIdx 34 x25 v10l2) fun x27 =>
 pL Tryd.prog (oLoad 24 x27) w13 fun x28 =>
 pL Tryd.prog (oLoad 24 x6) w13 fun x29 =>
 pN Tryd.prog (oCall 12 [x28, x29]) w13 fun x30 w14 =>
 (True) ∧ (pA Tryd.prog (oUn .not x30) fun x31 =>
 gA (gB x31 false) (pA Tryd.prog (oMv x21)) fun x33 =>
 gA (gB x31 false) (pA Tryd.prog (oFld 24 x6 5)) fun x34 =>
 gA (gB x31 false) (pL Tryd.prog (oLoad 22 x34) w14) fun x35 =>
 gA (gB x31 false) (pA Tryd.prog (oBi .len #[22] 3 [false] [x35])) fun x36 =>
 gA (gB x31 false) (pA Tryd.prog (oSl 22 x33 none (some x36) none)) fun x37 =>
 gA (gB x31 false) (pL Tryd.prog (oConv 22 9 x37) w14) fun x38 =>
 gA (gB x31 false) (pA Tryd.prog (oFld 24 x6 5)) fun x39 =>
 gA (gB x31 false) (pL Tryd.prog (oLoad 22 x39) w14) fun x40 =>
 gA (gB x31 false) (pL Tryd.prog (oConv 22 9 x40) w14) fun x41 =>
 gA (gB x31 false) (pA Tryd.prog (oBin .neq 9 (.tmp 38) (.tmp 41) x38 x41)) fun x42 =>
 pA Tryd.prog (oPick x31 (.bool true) x42) fun x43 =>
 gA (gB x43 false) (pA Tryd.prog (oMv x21)) fun x45 =>
 gA (gB x43 false) (pA Tryd.prog (oFld 24 x6 5)) fun x46 =>
 gA (gB x43 false) (pL Tryd.prog (oLoad 22 x46) w14) fun x47 =>
 gA (gB x43 false) (pA Tryd.prog (oBi .len #[22] 3 [false] [x47])) fun x48 =>
 gA (gB x43 false) (pA Tryd.prog (oIdx 22 x45 x48)) fun x49 =>
 gA (gB x43 false) (pL Tryd.prog (oLoad 5 x49) w14) fun x50 =>
 gA (gB x43 false) (pA Tryd.prog (oBin .neq 5 (.tmp 50) (.const (.int .u8 45)) x50 (bv 45))) fun x51 =>
 pA Tryd.prog (oPick x43 (.bool true) x51) fun x52 =>
 pIf x52
 (Q (.bool false) w14)
 (pN Tryd.prog (oBin .add 3 (.tmp 10) (.const (.int .i64 1)) v10l2 (.int .i64 1)) w14 fun x53 w15 =>
 (L2 x53 w15 ∧ m2 x53 w15 < m2 v10l2 w2))))
 (pN Tryd.prog (oNil x0) w3 fun x55 w16 =>
 pN Tryd.prog (oFld 75 x55 0) w16 fun x56 w17 =>
 pN Tryd.prog (oLoad 34 x56) w17 fun x57 w18 =>
 pN Tryd.prog (oBi .len #[34] 3 [false] [x1]) w18 fun x59 w19 =>
 pN Tryd.prog (oIdx 34 x57 x59) w19 fun x60 w20 =>
 pN Tryd.prog (oLoad 24 x60) w20 fun x61 w21 =>
 pN Tryd.prog (oBuild 24 [(0, (.string ⟨#[109, 105, 110, 101]⟩))]) w21 fun x62 w22 =>
 pN Tryd.prog (oCall 12 [x61, x62]) w22 fun x63 w23 =>
 Q x63 w23)
noncomputable def pithlaw33_Room_kept.c : Code := match Tryd.f17.body with | some c => c | none => .skip
theorem pithlaw33_Room_kept.eq [Pan] (x0 : Value) (x1 : Value) (w : World) (Q : Value → World → Prop) : cw Tryd.prog pithlaw33_Room_kept.H pithlaw33_Room_kept.c (endQ Tryd.prog Tryd.f17.results.toList Q) (argsE [x0, x1]) w = pithlaw33_Room_kept.F x0 x1 w Q := by kernel_rfl
theorem pithlaw33_Room_kept.calls [Pan] {x0 : Value} {x1 : Value} {w : World} {Q : Value → World → Prop} (h : pithlaw33_Room_kept.F x0 x1 w Q) : Calls Tryd.prog 17 #[x0, x1] w (retP Q) :=
  calls_of_cw (H := pithlaw33_Room_kept.H) (c := pithlaw33_Room_kept.c) (args := [x0, x1]) mixed Tryd.func17 (by kernel_rfl) (by kernel_rfl) (Nat.le_of_ble_eq_true (by kernel_rfl)) ((pithlaw33_Room_kept.eq x0 x1 w Q).mpr h)

/-! pithlaw33_sameAll: pith/pithlaw33.sameAll; temporaries: 0:x 1:y 2:x 3:y 5:i -/
def pithlaw33_sameAll.H : Hints := { cut := fun  | _ => none, loop := fun | 4 => ([13], 134209584) | _ => ([], 0), order := fun | 6 => [(0, 0), (1, 1), (2, 3), (3, 7), (4, 15), (5, 31), (6, 63), (7, 127), (8, 255), (9, 511)] | _ => [] }
def pithlaw33_sameAll.F [Pan] (x0 : Value) (x1 : Value) (w : World) (Q : Value → World → Prop) : Prop :=
 pN Tryd.prog (oBi .len #[34] 3 [false] [x0]) w fun x7 w1 =>
 pN Tryd.prog (oBi .len #[34] 3 [false] [x1]) w1 fun x9 w2 =>
 pN Tryd.prog (oBin .neq 3 (.tmp 7) (.tmp 9) x7 x9) w2 fun x10 w3 =>
 pIf x10
 (Q (.bool false) w3)
 (pN Tryd.prog (oBi .len #[34] 3 [false] [x0]) w3 fun x12 w4 =>
 ∃ (L4 : Value → World → Prop) (m4 : Value → World → Nat),
 L4 (.int .i64 0) w4 ∧
 ∀ (_k4 : Env) (v13l4 : Value) (w5 : World), L4 v13l4 w5 →
 pN Tryd.prog (oBin .lss 3 (.tmp 13) (.tmp 12) v13l4 x12) w5 fun x14 w6 =>
 pIf x14
 (pDr w6 fun w7 =>
 pA Tryd.prog (oIdx 34 x0 v13l4) fun x18 =>
 pL Tryd.prog (oLoad 24 x18) w7 fun x19 =>
 pA Tryd.prog (oIdx 34 x1 v13l4) fun x22 =>
 pL Tryd.prog (oLoad 24 x22) w7 fun x23 =>
 pN Tryd.prog (oCall 12 [x19, x23]) w7 fun x24 w8 =>
 (True) ∧ (pA Tryd.prog (oUn .not x24) fun x25 =>
 pIf x25
 (Q (.bool false) w8)
 (pN Tryd.prog (oBin .add 3 (.tmp 13) (.const (.int .i64 1)) v13l4 (.int .i64 1)) w8 fun x26 w9 =>
 (L4 x26 w9 ∧ m4 x26 w9 < m4 v13l4 w5))))
 (Q (.bool true) w6))
noncomputable def pithlaw33_sameAll.c : Code := match Tryd.f21.body with | some c => c | none => .skip
theorem pithlaw33_sameAll.eq [Pan] (x0 : Value) (x1 : Value) (w : World) (Q : Value → World → Prop) : cw Tryd.prog pithlaw33_sameAll.H pithlaw33_sameAll.c (endQ Tryd.prog Tryd.f21.results.toList Q) (argsE [x0, x1]) w = pithlaw33_sameAll.F x0 x1 w Q := by kernel_rfl
theorem pithlaw33_sameAll.calls [Pan] {x0 : Value} {x1 : Value} {w : World} {Q : Value → World → Prop} (h : pithlaw33_sameAll.F x0 x1 w Q) : Calls Tryd.prog 21 #[x0, x1] w (retP Q) :=
  calls_of_cw (H := pithlaw33_sameAll.H) (c := pithlaw33_sameAll.c) (args := [x0, x1]) mixed Tryd.func21 (by kernel_rfl) (by kernel_rfl) (Nat.le_of_ble_eq_true (by kernel_rfl)) ((pithlaw33_sameAll.eq x0 x1 w Q).mpr h)

/-! pithlaw33_TarLists_c1: pith/pithlaw33.TarLists$1; temporaries: 0:b 3:b -/
def pithlaw33_TarLists_c1.H : Hints := { cut := fun  | _ => none, loop := fun  | _ => ([], 0), order := fun  | _ => [] }
def pithlaw33_TarLists_c1.F [Pan] (x0 : Value) (x1 : Value) (x2 : Value) (w : World) (Q : Value → World → Prop) : Prop :=
 pDr w fun w1 =>
 pL Tryd.prog (oLoad 57 x1) w1 fun x4 =>
 pL Tryd.prog (oLoad 58 x2) w1 fun x8 =>
 pL Tryd.prog (oConv 22 9 x0) w1 fun x10 =>
 (pN Tryd.prog (oBs 57 1 [(0, x0)]) w1 fun x6 w2 =>
 ((Sem.run Tryd.prog (oConv 22 9 x0) w2 = .ok (.value x10) w2) ∧ (Sem.run Tryd.prog (oLoad 58 x2) w2 = .ok (.value x8) w2) ∧ (Sem.run Tryd.prog (oLoad 57 x1) w2 = .ok (.value x4) w2) ∧ True) ∧ ((pN Tryd.prog (oBi .append #[57, 57] 57 [false, false] [x4, x6]) w2 fun x7 w3 =>
 ((Sem.run Tryd.prog (oConv 22 9 x0) w3 = .ok (.value x10) w3) ∧ (Sem.run Tryd.prog (oLoad 58 x2) w3 = .ok (.value x8) w3) ∧ True) ∧ (pN Tryd.prog (oBs 58 1 [(0, x10)]) w3 fun x11 w4 =>
 ((Sem.run Tryd.prog (oLoad 58 x2) w4 = .ok (.value x8) w4) ∧ True) ∧ (pN Tryd.prog (oBi .append #[58, 58] 58 [false, false] [x8, x11]) w4 fun x12 w5 =>
 (True) ∧ (pN Tryd.prog (oStore 57 x1 x7) w5 fun _ w6 =>
 (True) ∧ (pN Tryd.prog (oStore 58 x2 x12) w6 fun _ w7 =>
 (True) ∧ (Q (.tuple #[]) w7)))))) ∧ (pN Tryd.prog (oBs 58 1 [(0, x10)]) w2 fun x11 w8 =>
 ((Sem.run Tryd.prog (oLoad 58 x2) w8 = .ok (.value x8) w8) ∧ (Sem.run Tryd.prog (oLoad 57 x1) w8 = .ok (.value x4) w8) ∧ True) ∧ (pN Tryd.prog (oBi .append #[57, 57] 57 [false, false] [x4, x6]) w8 fun x7 w9 =>
 ((Sem.run Tryd.prog (oLoad 58 x2) w9 = .ok (.value x8) w9) ∧ True) ∧ (pN Tryd.prog (oBi .append #[58, 58] 58 [false, false] [x8, x11]) w9 fun x12 w10 =>
 (True) ∧ (pN Tryd.prog (oStore 57 x1 x7) w10 fun _ w11 =>
 (True) ∧ (pN Tryd.prog (oStore 58 x2 x12) w11 fun _ w12 =>
 (True) ∧ (Q (.tuple #[]) w12)))))))) ∧ (pN Tryd.prog (oBs 58 1 [(0, x10)]) w1 fun x11 w13 =>
 ((Sem.run Tryd.prog (oLoad 58 x2) w13 = .ok (.value x8) w13) ∧ (Sem.run Tryd.prog (oLoad 57 x1) w13 = .ok (.value x4) w13) ∧ True) ∧ (pN Tryd.prog (oBs 57 1 [(0, x0)]) w13 fun x6 w14 =>
 ((Sem.run Tryd.prog (oLoad 58 x2) w14 = .ok (.value x8) w14) ∧ (Sem.run Tryd.prog (oLoad 57 x1) w14 = .ok (.value x4) w14) ∧ True) ∧ (pN Tryd.prog (oBi .append #[57, 57] 57 [false, false] [x4, x6]) w14 fun x7 w15 =>
 ((Sem.run Tryd.prog (oLoad 58 x2) w15 = .ok (.value x8) w15) ∧ True) ∧ (pN Tryd.prog (oBi .append #[58, 58] 58 [false, false] [x8, x11]) w15 fun x12 w16 =>
 (True) ∧ (pN Tryd.prog (oStore 57 x1 x7) w16 fun _ w17 =>
 (True) ∧ (pN Tryd.prog (oStore 58 x2 x12) w17 fun _ w18 =>
 (True) ∧ (Q (.tuple #[]) w18)))))))
noncomputable def pithlaw33_TarLists_c1.c : Code := match Tryd.f24.body with | some c => c | none => .skip
theorem pithlaw33_TarLists_c1.eq [Pan] (x0 : Value) (x1 : Value) (x2 : Value) (w : World) (Q : Value → World → Prop) : cw Tryd.prog pithlaw33_TarLists_c1.H pithlaw33_TarLists_c1.c (endQ Tryd.prog Tryd.f24.results.toList Q) (argsE [x0, x1, x2]) w = pithlaw33_TarLists_c1.F x0 x1 x2 w Q := by kernel_rfl
theorem pithlaw33_TarLists_c1.calls [Pan] {x0 : Value} {x1 : Value} {x2 : Value} {w : World} {Q : Value → World → Prop} (h : pithlaw33_TarLists_c1.F x0 x1 x2 w Q) : Calls Tryd.prog 24 #[x0, x1, x2] w (retP Q) :=
  calls_of_cw (H := pithlaw33_TarLists_c1.H) (c := pithlaw33_TarLists_c1.c) (args := [x0, x1, x2]) mixed Tryd.func24 (by kernel_rfl) (by kernel_rfl) (Nat.le_of_ble_eq_true (by kernel_rfl)) ((pithlaw33_TarLists_c1.eq x0 x1 x2 w Q).mpr h)

/-! pithlaw33_tail: pith/pithlaw33.tail; temporaries: 0:i 1:i 3:b -/
def pithlaw33_tail.H : Hints := { cut := fun  | _ => none, loop := fun | 3 => ([3, 4], 8184) | _ => ([], 0), order := fun  | _ => [] }
def pithlaw33_tail.F [Pan] (x0 : Value) (w : World) (Q : Value → World → Prop) : Prop :=
 ∃ (L3 : Value → Value → World → Prop) (m3 : Value → Value → World → Nat),
 L3 (.slice none 0 0) (.int .i64 0) w ∧
 ∀ (_k3 : Env) (b3l3 : Value) (v4l3 : Value) (w1 : World), L3 b3l3 v4l3 w1 →
 pN Tryd.prog (oBin .lss 3 (.tmp 4) (.const (.int .i64 1200)) v4l3 (.int .i64 1200)) w1 fun x5 w2 =>
 pIf x5
 (pN Tryd.prog (oBin .add 3 (.tmp 7) (.const (.int .i64 100)) x0 (.int .i64 100)) w2 fun x8 w3 =>
 pN Tryd.prog (oConv 3 5 x8) w3 fun x9 w4 =>
 pN Tryd.prog (oBs 22 1 [(0, x9)]) w4 fun x10 w5 =>
 pN Tryd.prog (oBi .append #[22, 22] 22 [false, false] [b3l3, x10]) w5 fun x11 w6 =>
 pN Tryd.prog (oBin .add 3 (.tmp 4) (.const (.int .i64 1)) v4l3 (.int .i64 1)) w6 fun x12 w7 =>
 (L3 x11 x12 w7 ∧ m3 x11 x12 w7 < m3 b3l3 v4l3 w1))
 (Q b3l3 w2)
noncomputable def pithlaw33_tail.c : Code := match Tryd.f25.body with | some c => c | none => .skip
theorem pithlaw33_tail.eq [Pan] (x0 : Value) (w : World) (Q : Value → World → Prop) : cw Tryd.prog pithlaw33_tail.H pithlaw33_tail.c (endQ Tryd.prog Tryd.f25.results.toList Q) (argsE [x0]) w = pithlaw33_tail.F x0 w Q := by kernel_rfl
theorem pithlaw33_tail.calls [Pan] {x0 : Value} {w : World} {Q : Value → World → Prop} (h : pithlaw33_tail.F x0 w Q) : Calls Tryd.prog 25 #[x0] w (retP Q) :=
  calls_of_cw (H := pithlaw33_tail.H) (c := pithlaw33_tail.c) (args := [x0]) mixed Tryd.func25 (by kernel_rfl) (by kernel_rfl) (Nat.le_of_ble_eq_true (by kernel_rfl)) ((pithlaw33_tail.eq x0 w Q).mpr h)

end Go.Proofs.YteeepkimnpabiaaDoor

namespace Go.Proofs.YteeepkimnpabiaaDoor
open Go
set_option linter.unusedSimpArgs false
set_option linter.unnecessarySimpa false
set_option linter.unusedSectionVars false
set_option linter.unusedVariables false

namespace A
theorem parted_bd {l : List UInt8} (h : (parted l).2.2 = true) : (parted l).2.1.length ≤ 100 ∧ (parted l).1.length ≤ 155 := by
  unfold parted at h ⊢
  split at h
  · cases h
  · rename_i h1
    rw [if_neg h1]
    split at h
    · rename_i h2
      rw [if_pos h2]
      exact ⟨h2, by simp⟩
    · rename_i h2
      rw [if_neg h2]
      cases hs : slash l (max 1 (l.length - 101)) with
      | none => rw [hs] at h; cases h
      | some i =>
        rw [hs] at h
        dsimp only at h ⊢
        have h3 := of_decide_eq_true h
        have h4 := slash_some hs
        simp only [List.length_drop, List.length_take]
        omega
theorem wrong_0 {x : T_api_Item} (h : wrong x = 0) : Fits x ∧ 0 ≤ x.Kind ∧ x.Kind < 3 ∧ 0 ≤ x.Mode ∧ x.Mode < 4096 ∧ 0 ≤ x.Time ∧ x.Time < 8589934592 ∧ x.Data.2.length < 8589934592 ∧ (parted x.Name).2.2 = true ∧ (x.Kind = 2 → 0 < x.Link.length ∧ x.Link.length ≤ 100 ∧ ¬ 0 ∈ x.Link) ∧ (x.Kind ≠ 2 → x.Link = []) ∧ (x.Kind ≠ 0 → x.Data.2 = []) := by
  unfold wrong at h
  split at h
  · omega
  · rename_i h1
    split at h
    · omega
    · rename_i h2
      split at h
      · omega
      · rename_i h3
        have hp : (parted x.Name).2.2 = true := by
          cases hb : (parted x.Name).2.2
          · exact absurd (.inl hb) h2
          · rfl
        have hl : x.Kind = 2 → 0 < x.Link.length ∧ x.Link.length ≤ 100 ∧ ¬ 0 ∈ x.Link := fun hk => by
          have h4 : ¬ (x.Link.length = 0 ∨ 100 < x.Link.length ∨ 0 ∈ x.Link) := fun h => h2 (.inr ⟨hk, h⟩)
          exact ⟨by have : ¬ x.Link.length = 0 := fun e => h4 (.inl e); omega, by have : ¬ 100 < x.Link.length := fun e => h4 (.inr (.inl e)); omega, fun e => h4 (.inr (.inr e))⟩
        have hl0 : x.Kind ≠ 2 → x.Link = [] := fun hk => List.length_eq_zero_iff.1 (by omega)
        have hd0 : x.Kind ≠ 0 → x.Data.2 = [] := fun hk => List.length_eq_zero_iff.1 (by omega)
        have hb := parted_bd hp
        refine ⟨⟨hb.1, hb.2, ?_⟩, by omega, by omega, by omega, by omega, by omega, by omega, by omega, hp, hl, hl0, hd0⟩
        by_cases hk : x.Kind = 2
        · exact (hl hk).2.1
        · rw [hl0 hk]; simp
theorem fits_name {x : T_api_Item} (h : (parted x.Name).2.2 = true) : x.Name.length ≤ 256 := by
  have hb := parted_bd h
  unfold parted at h hb
  split at h
  · cases h
  · rename_i h1
    rw [if_neg h1] at hb
    split at h
    · omega
    · rename_i h2
      rw [if_neg h2] at hb
      cases hs : slash x.Name (max 1 (x.Name.length - 101)) with
      | none => rw [hs] at h; cases h
      | some i =>
        rw [hs] at hb
        have h4 := slash_some hs
        simp only [List.length_drop, List.length_take] at hb
        omega
/-- How many zeros stand behind so many bytes. -/
def padn (n : Nat) : Nat := (512 - n % 512) % 512
/-- An item's bytes. -/
def putB (x : T_api_Item) : List UInt8 := header x x.Data.2.length ++ x.Data.2 ++ List.replicate (padn (512 + x.Data.2.length)) 0
end A

theorem run_bH (a b : ByteArray) (c d e m : Int) (p : Option Addr) (n q : Nat) (w : World) : (oBuild 65 [(0, .agg #[.string a, .string b, .int .i64 c, .int .i64 d, .int .i64 e, .slice p n q]), (1, .int .i64 m)]).run Tryd.prog w = .ok (.value (.agg #[.string a, .string b, .int .i64 c, .int .i64 d, .int .i64 e, .slice p n q, .int .i64 m])) w := by kernel_rfl
theorem pN_bH [Pan] {w : World} {K : Value → World → Prop} {a b : ByteArray} {c d e m : Int} {p : Option Addr} {n q : Nat} (hk : K (.agg #[.string a, .string b, .int .i64 c, .int .i64 d, .int .i64 e, .slice p n q, .int .i64 m]) w) :
    pN Tryd.prog (oBuild 65 [(0, .agg #[.string a, .string b, .int .i64 c, .int .i64 d, .int .i64 e, .slice p n q]), (1, .int .i64 m)]) w K := by rw [pN_def, run_bH, rN_value]; exact hk

attribute [local irreducible] oMv oV oU oCall oCallV oBi oBin oUn oLoad oStore oNil oFld oField oIdx oIndex oPick oAlloc oBox oBuild oBs oConv oMk oSl oExt oFn oIface oMap oLook oMapUp oRange oNext oAssert oPanic oRes pN pA pL pDr pIf gA pGd Calls A.made A.header A.oct A.wrong A.padn
section
variable [Pan] {E w : World} {K Q : Value → World → Prop} {L M : List HA} {l r : List UInt8} {s s2 : Sl}

set_option maxHeartbeats 2000000 in
theorem Put_ok (x : T_api_Item) (hn : x.Name.length ≤ 140737488355328) (hk : x.Link.length ≤ 140737488355328) (hS : Sat E w M) [hr : Rds cd_uint8 M x.Data.1 x.Data.2]
    (hno : A.wrong x ≠ 0 → ∀ w, Sat E w M → Q (.tuple #[.slice none 0 0, .int .i64 (A.wrong x)]) w)
    (hok : A.wrong x = 0 → ∀ s w, Sat E w (rows cd_uint8 s (A.putB x) :: M) → Q (.tuple #[.slice s.a (A.putB x).length s.c, .int .i64 0]) w) :
    Calls Tryd.prog 8 #[.agg x.enc.toArray] w (retP Q) := by
  refine tar_Put.calls ?_
  unfold tar_Put.F
  obtain ⟨y, hy⟩ : ∃ y, y = x := ⟨x, rfl⟩
  obtain ⟨name, link, kind, mode, time, data⟩ := x
  dsimp only at hn hk hr
  refine pN_bx hS (by rfl) ?_
  clear hS
  intro ab w hS
  repeat' (first | refine pN_la hS (by rfl) ?_ | fail)
  refine pc_tar_wrong (wrong_ok ⟨name, link, kind, mode, time, data⟩ hn hk hS ?_)
  clear hS
  intro w hS
  rw [← hy] at hno hok ⊢
  by_cases h0 : A.wrong y = 0
  · obtain ⟨hf, k0, k2, m0, m1, t0, t1, d1, hpt, hl, hl0, hd0⟩ := A.wrong_0 h0
    rw [h0]
    have hdl : data.2.length < 8589934592 := by rw [hy] at d1; exact d1
    repeat' (first | refine pN_bH ?_ | (refine pN_neq_s ?_ ?_ <;> intro hc <;> try (exfalso; first | omega | exact hc rfl | exact hc (by assumption) | exact absurd hc (by assumption))) | refine pIf_f ?_ | refine pL_l hS (by first | rfl | assumption) ?_ | refine pL_la hS (by rfl) ?_ | (refine pDr_go hS ?_; clear hS; intro w hS) | (refine pN_bx hS (by rfl) ?_; clear hS; intro a w hS) | refine ⟨⟨(by first | exact run_l hS (by first | rfl | assumption) | exact run_st hS (by first | rfl | omega) | exact run_ld1 ha hS | exact fun _ => run_l hS (by rfl) | exact fun _ => run_st hS (by first | rfl | omega) | exact fun _ => run_ld1 ha hS | exact fun h => Bool.noConfusion h), trivial⟩, ?_⟩ | refine pA_via (by (intro K; simp (disch := omega) only [go_sem, pN_min, pN_max, w_u32, w_u64, Option.isNone_some, Option.isNone_none]; (try simp only [wrap_u32, wrap_u64]); rfl)) ?_ | fail)
    have hS : Sat E w (headP a y (data.2.length : Nat) :: cel ab ⟨24, T_api_Item.enc ⟨name, link, kind, mode, time, data⟩⟩ :: M) := by subst hy; exact hS
    have hnl := A.fits_name hpt
    have hd : y.Data.2 = data.2 := by rw [hy]
    refine pc_tar_header (header_ok (x := y) (n := (data.2.length : Nat)) hf (by omega) k0 k2 hS ?_)
    clear hS
    intro s w hS
    have hhl := header_len hf (data.2.length : Nat)
    have hpb : A.putB y = A.header y (data.2.length : Nat) ++ data.2 ++ List.replicate (A.padn (512 + data.2.length)) 0 := by rw [A.putB, hd]
    rw [hpb] at hok
    generalize A.header y (data.2.length : Nat) = hd at *
    have hpl : A.padn (512 + data.2.length) < 512 := by unfold A.padn; omega
    have hal : (hd ++ data.2).length = 512 + data.2.length := by rw [List.length_append, hhl]
    have hpe : (512 - (512 + data.2.length) % 512) % 512 = A.padn (512 + data.2.length) := by unfold A.padn; rfl
    repeat' (first | refine ⟨trivial, ?_⟩ | refine ⟨⟨(by first | exact run_l hS (by first | rfl | assumption) | exact run_st hS (by first | rfl | omega) | exact run_ld1 ha hS | exact fun _ => run_l hS (by rfl) | exact fun _ => run_st hS (by first | rfl | omega) | exact fun _ => run_ld1 ha hS | exact fun h => Bool.noConfusion h), trivial⟩, ?_⟩ | (refine pN_app hS (by first | rfl | omega | simpa only [go_sem] using True.intro | (simp only [go_sem]; omega)) (by first | rfl | omega | simpa only [go_sem] using True.intro | (simp only [go_sem]; omega)) (by first | omega | (simp only [go_sem]; omega)) ?_; clear hS; intro s w hS) | refine pN_via (by (intro K; simp (disch := omega) only [go_sem, pN_min, pN_max, w_u32, w_u64, Option.isNone_some, Option.isNone_none]; (try simp only [wrap_u32, wrap_u64]); rfl)) ?_ | fail)
    rw [hhl]
    refine pc_tar_pad (pad_ok (512 + data.2.length) (by omega) ?_)
    rw [hpe]
    refine pN_appz (C := cd_uint8) hS (A.padn (512 + data.2.length)) rfl rfl (by omega) ?_
    clear hS
    intro s w hS
    have hS : Sat E w (rows cd_uint8 s (hd ++ data.2 ++ List.replicate (A.padn (512 + data.2.length)) 0) :: headP a y (data.2.length : Nat) :: cel ab ⟨24, T_api_Item.enc ⟨name, link, kind, mode, time, data⟩⟩ :: M) := hS
    exact hok h0 _ _ hS.to
  · repeat' (first | (refine pN_neq_s ?_ ?_ <;> intro hc <;> try (exfalso; first | omega | exact hc rfl | exact hc (by assumption) | exact absurd hc (by assumption))) | refine pIf_t ?_ | fail)
    exact hno h0 _ hS.to

theorem num_ok (e : Int) (hQ : Q (.int .i64 e) w) : Calls Tryd.prog 9 #[.int .i64 e] w (retP Q) := by
  refine pithlaw33_num.calls ?_
  unfold pithlaw33_num.F
  skip
  exact hQ
end

end Go.Proofs.YteeepkimnpabiaaDoor

namespace Go.Proofs.YteeepkimnpabiaaDoor
open Go
set_option linter.unusedSimpArgs false
set_option linter.unnecessarySimpa false
set_option linter.unusedSectionVars false
set_option linter.unusedVariables false

namespace A
def hello : List UInt8 := [104, 101, 108, 108, 111]
def itemH (s : Sl) : T_api_Item := ⟨[97], [], 0, 420, 1, (s, hello)⟩
theorem itemH_right (s : Sl) : wrong (itemH s) = 0 := by simp [wrong, itemH, parted, hello]
theorem itemH_bytes (s : Sl) : ((putB (itemH s)).drop 148).take (157 - 148) = [48, 48, 55, 51, 52, 52, 0, 32, 48] := by kernel_rfl
theorem itemH_len (s : Sl) : (putB (itemH s)).length = 1024 := by kernel_rfl
theorem zero_wrong : wrong T_api_Item.zero = 8 := by simp [wrong, T_api_Item.zero, parted]
end A

attribute [local irreducible] oMv oV oU oCall oCallV oBi oBin oUn oLoad oStore oNil oFld oField oIdx oIndex oPick oAlloc oBox oBuild oBs oConv oMk oSl oExt oFn oIface oMap oLook oMapUp oRange oNext oAssert oPanic oRes pN pA pL pDr pIf gA pGd Calls A.made A.header A.oct A.wrong A.padn A.putB
section
variable [Pan] {E w : World} {K Q : Value → World → Prop} {L M : List HA} {l r : List UInt8} {s s2 : Sl}

def same (x y : T_api_Item) : Prop := x.Name = y.Name ∧ x.Link = y.Link ∧ x.Kind = y.Kind ∧ x.Mode = y.Mode ∧ x.Time = y.Time ∧ x.Data.2 = y.Data.2
instance (x y : T_api_Item) : Decidable (same x y) := inferInstanceAs (Decidable (_ ∧ _))

set_option maxHeartbeats 2000000 in
theorem same_ok (x y : T_api_Item) (hS : Sat E w M) [hr : Rds cd_uint8 M x.Data.1 x.Data.2] [hr2 : Rds cd_uint8 M y.Data.1 y.Data.2] (hQ : ∀ w, Sat E w M → Q (.bool (decide (same x y))) w) :
    Calls Tryd.prog 12 #[.agg x.enc.toArray, .agg y.enc.toArray] w (retP Q) := by
  refine pithlaw33_same.calls ?_
  unfold pithlaw33_same.F
  obtain ⟨a1, a2, a3, a4, a5, a6⟩ := x
  obtain ⟨b1, b2, b3, b4, b5, b6⟩ := y
  dsimp only at hr hr2
  simp only [same] at hQ
  by_cases h1 : a1 = b1
  · by_cases h2 : a2 = b2
    · by_cases h3 : a3 = b3
      · by_cases h4 : a4 = b4
        · by_cases h5 : a5 = b5
          · by_cases h6 : a6.2 = b6.2
            · simp only [h1, h2, h3, h4, h5, h6, true_and, and_true, decide_true] at hQ
              repeat' (first | ((first | refine pN_eql_s ?_ ?_ | refine pN_eql_ss ?_ ?_) <;> intro hc <;> try (exfalso; first | omega | exact hc rfl | exact hc (by assumption) | exact absurd hc (by assumption))) | refine pGd_go (by rfl) ?_ | refine pN_l hS (by first | rfl | assumption) ?_ | (refine pN_bx hS (by rfl) ?_; clear hS; intro a w hS) | refine pN_st hS (by first | rfl | omega | simpa only [go_sem] using True.intro | (simp only [go_sem]; omega)) ?_ | refine pN_via (by (intro K; simp (disch := omega) only [go_sem, pN_min, pN_max, w_u32, w_u64, Option.isNone_some, Option.isNone_none]; (try simp only [wrap_u32, wrap_u64]); rfl)) ?_ | fail)
              exact hQ _ hS.to
            · simp only [h1, h2, h3, h4, h5, h6, true_and, and_false, decide_false] at hQ
              repeat' (first | ((first | refine pN_eql_s ?_ ?_ | refine pN_eql_ss ?_ ?_) <;> intro hc <;> try (exfalso; first | omega | exact hc rfl | exact hc (by assumption) | exact absurd hc (by assumption))) | refine pGd_go (by rfl) ?_ | refine pN_l hS (by first | rfl | assumption) ?_ | (refine pN_bx hS (by rfl) ?_; clear hS; intro a w hS) | refine pN_st hS (by first | rfl | omega | simpa only [go_sem] using True.intro | (simp only [go_sem]; omega)) ?_ | refine pN_via (by (intro K; simp (disch := omega) only [go_sem, pN_min, pN_max, w_u32, w_u64, Option.isNone_some, Option.isNone_none]; (try simp only [wrap_u32, wrap_u64]); rfl)) ?_ | fail)
              exact hQ _ hS.to
          · simp only [h5, false_and, and_false, decide_false] at hQ
            repeat' (first | ((first | refine pN_eql_s ?_ ?_ | refine pN_eql_ss ?_ ?_) <;> intro hc <;> try (exfalso; first | omega | exact hc rfl | exact hc (by assumption) | exact absurd hc (by assumption))) | refine pGd_go (by rfl) ?_ | refine pGd_no (by rfl) ?_ | refine pN_l hS (by first | rfl | assumption) ?_ | (refine pN_bx hS (by rfl) ?_; clear hS; intro a w hS) | refine pN_via (by (intro K; simp (disch := omega) only [go_sem, pN_min, pN_max, w_u32, w_u64, Option.isNone_some, Option.isNone_none]; (try simp only [wrap_u32, wrap_u64]); rfl)) ?_ | fail)
            exact hQ _ hS.to
        · simp only [h4, false_and, and_false, decide_false] at hQ
          repeat' (first | ((first | refine pN_eql_s ?_ ?_ | refine pN_eql_ss ?_ ?_) <;> intro hc <;> try (exfalso; first | omega | exact hc rfl | exact hc (by assumption) | exact absurd hc (by assumption))) | refine pGd_go (by rfl) ?_ | refine pGd_no (by rfl) ?_ | refine pN_l hS (by first | rfl | assumption) ?_ | (refine pN_bx hS (by rfl) ?_; clear hS; intro a w hS) | refine pN_via (by (intro K; simp (disch := omega) only [go_sem, pN_min, pN_max, w_u32, w_u64, Option.isNone_some, Option.isNone_none]; (try simp only [wrap_u32, wrap_u64]); rfl)) ?_ | fail)
          exact hQ _ hS.to
      · simp only [h3, false_and, and_false, decide_false] at hQ
        repeat' (first | ((first | refine pN_eql_s ?_ ?_ | refine pN_eql_ss ?_ ?_) <;> intro hc <;> try (exfalso; first | omega | exact hc rfl | exact hc (by assumption) | exact absurd hc (by assumption))) | refine pGd_go (by rfl) ?_ | refine pGd_no (by rfl) ?_ | refine pN_l hS (by first | rfl | assumption) ?_ | (refine pN_bx hS (by rfl) ?_; clear hS; intro a w hS) | refine pN_via (by (intro K; simp (disch := omega) only [go_sem, pN_min, pN_max, w_u32, w_u64, Option.isNone_some, Option.isNone_none]; (try simp only [wrap_u32, wrap_u64]); rfl)) ?_ | fail)
        exact hQ _ hS.to
    · simp only [h2, false_and, and_false, decide_false] at hQ
      repeat' (first | (refine pN_eql_ss ?_ ?_ <;> intro hc <;> try (exfalso; first | omega | exact hc rfl | exact hc (by assumption) | exact absurd hc (by assumption))) | refine pGd_go (by rfl) ?_ | refine pGd_no (by rfl) ?_ | refine pN_l hS (by first | rfl | assumption) ?_ | (refine pN_bx hS (by rfl) ?_; clear hS; intro a w hS) | refine pN_via (by (intro K; simp (disch := omega) only [go_sem, pN_min, pN_max, w_u32, w_u64, Option.isNone_some, Option.isNone_none]; (try simp only [wrap_u32, wrap_u64]); rfl)) ?_ | fail)
      exact hQ _ hS.to
  · simp only [h1, false_and, decide_false] at hQ
    repeat' (first | (refine pN_eql_ss ?_ ?_ <;> intro hc <;> try (exfalso; first | omega | exact hc rfl | exact hc (by assumption) | exact absurd hc (by assumption))) | refine pGd_no (by rfl) ?_ | refine pN_l hS (by first | rfl | assumption) ?_ | (refine pN_bx hS (by rfl) ?_; clear hS; intro a w hS) | refine pN_via (by (intro K; simp (disch := omega) only [go_sem, pN_min, pN_max, w_u32, w_u64, Option.isNone_some, Option.isNone_none]; (try simp only [wrap_u32, wrap_u64]); rfl)) ?_ | fail)
    exact hQ _ hS.to

theorem Write_nil (hS : Sat E w M) (hQ : ∀ s w, Sat E w (rows cd_uint8 s (List.replicate 1024 0) :: M) → Q (.tuple #[.slice s.a 1024 s.c, .int .i64 0]) w) :
    Calls Tryd.prog 15 #[.slice none 0 0] w (retP Q) := by
  refine tar_Write.calls ?_
  unfold tar_Write.F
  repeat' (first | refine pN_via (by (intro K; simp (disch := omega) only [go_sem, pN_min, pN_max, w_u32, w_u64, Option.isNone_some, Option.isNone_none]; (try simp only [wrap_u32, wrap_u64]); rfl)) ?_ | fail)
  refine ⟨fun v i w' => v = .slice none 0 0 ∧ i = .int .i64 0 ∧ Sat E w' M, fun _ _ _ => 0, ⟨rfl, rfl, hS⟩, ?_⟩
  clear hS
  rintro _ _ _ w ⟨rfl, rfl, hS⟩
  repeat' (first | (refine pN_lss_s ?_ ?_ <;> intro hc <;> try (exfalso; omega)) | refine pIf_f ?_ | fail)
  have hS : Sat E w (rows cd_uint8 ⟨none, 0⟩ [] :: M) := hS.nil 5 1
  refine pN_appz (C := cd_uint8) (s := ⟨none, 0⟩) (l := []) hS 1024 rfl rfl (by decide) ?_
  clear hS
  intro s w hS
  have hz : cd_uint8.zero = 0 := rfl
  rw [List.nil_append, hz] at hS ⊢
  rw [List.length_replicate]
  exact hQ _ _ hS

set_option maxHeartbeats 2000000 in
theorem known_ok (hS : Sat E w M) (hQ : ∀ w, Sat E w M → Q (.bool true) w) : Calls Tryd.prog 10 #[] w (retP Q) := by
  refine pithlaw33_known.calls ?_
  unfold pithlaw33_known.F
  refine pN_bl (C := cd_uint8) [bv 104, bv 101, bv 108, bv 108, bv 111] A.hello rfl rfl rfl (Nat.le_of_ble_eq_true rfl) hS (Nat.le_of_ble_eq_true rfl) ?_
  clear hS
  intro s0 w hS
  refine pN_mks (C := cd_uint8) (l := A.hello) hS (by decide) Tryd.underlying5 rfl ?_
  clear hS
  intro w hS
  repeat' (first | refine pN_via (by (intro K; simp (disch := omega) only [go_sem, pN_min, pN_max, w_u32, w_u64, Option.isNone_some, Option.isNone_none]; (try simp only [wrap_u32, wrap_u64]); rfl)) ?_ | fail)
  haveI hr0 : Rds cd_uint8 (rowM cd_uint8 s0 A.hello :: M) (A.itemH s0).Data.1 (A.itemH s0).Data.2 := (inferInstance : Rds cd_uint8 (rowM cd_uint8 s0 A.hello :: M) s0 A.hello)
  refine pc_tar_Put (Put_ok (A.itemH s0) (by show 1 ≤ _; omega) (Nat.zero_le _) hS (fun h => absurd (A.itemH_right s0) h) fun _ s1 w hS => ?_)
  have hb1 := A.itemH_bytes s0
  have hb2 := A.itemH_len s0
  generalize A.putB (A.itemH s0) = pb at *
  repeat' (first | refine pN_via (by (intro K; simp (disch := omega) only [go_sem, pN_min, pN_max, w_u32, w_u64, Option.isNone_some, Option.isNone_none]; (try simp only [wrap_u32, wrap_u64]); rfl)) ?_ | fail)
  refine pc_tar_Write (Write_nil hS fun s2 w hS => ?_)
  have hl2 : (List.replicate 1024 (0 : UInt8)).length = 1024 := List.length_replicate
  generalize hzs : List.replicate 1024 (0 : UInt8) = zs at *
  rw [← hl2]
  repeat' (first | refine pN_via (by (intro K; simp (disch := omega) only [go_sem, pN_min, pN_max, w_u32, w_u64, Option.isNone_some, Option.isNone_none]; (try simp only [wrap_u32, wrap_u64]); rfl)) ?_ | fail)
  haveI hr1 : Rds cd_uint8 (rows cd_uint8 s2 zs :: rows cd_uint8 s1 pb :: rowM cd_uint8 s0 A.hello :: M) T_api_Item.zero.Data.1 T_api_Item.zero.Data.2 := Rds.nil
  refine pc_tar_Put (Put_ok T_api_Item.zero (Nat.zero_le _) (Nat.zero_le _) hS (fun _ w hS => ?_) fun h => absurd h (by rw [A.zero_wrong]; decide))
  rw [A.zero_wrong]
  have hz : cd_uint8.zero = 0 := rfl
  have hzs0 : List.replicate 1024 cd_uint8.zero = zs := by rw [hz]; exact hzs
  repeat' (first | (refine pc_pithlaw33_num (num_ok _ ?_)) | (refine pN_mk (C := cd_uint8) hS 1024 rfl (by decide) ?_; clear hS; intro s3 w hS; rw [hzs0] at hS) | (refine pA_sl2w (C := cd_uint8) (s := s1) (l := pb) hS 148 157 rfl rfl rfl (by omega) (by omega) ?_; intro hp; rw [hb1] at hp) | ((first | refine pA_eql_s ?_ ?_ | refine pA_eql_ss ?_ ?_) <;> intro hc <;> try (exfalso; first | omega | exact hc rfl | exact hc (by assumption) | exact absurd hc (by assumption))) | refine gA_go (by rfl) ?_ | refine pGd_go (by rfl) ?_ | (refine pDr_go hS ?_; clear hS; intro w hS) | refine ⟨trivial, ?_⟩ | refine ⟨⟨(by first | exact run_l hS (by first | rfl | assumption) | exact run_st hS (by first | rfl | omega) | exact run_ld1 ha hS | exact fun _ => run_l hS (by rfl) | exact fun _ => run_st hS (by first | rfl | omega) | exact fun _ => run_ld1 ha hS | exact fun h => Bool.noConfusion h), trivial⟩, ?_⟩ | refine pL_st hS (by first | rfl | omega | simpa only [go_sem] using True.intro | (simp only [go_sem]; omega)) ?_ | refine pN_via (by (intro K; simp (disch := omega) only [go_sem, pN_min, pN_max, w_u32, w_u64, Option.isNone_some, Option.isNone_none]; (try simp only [wrap_u32, wrap_u64]); rfl)) ?_ | refine pA_via (by (intro K; simp (disch := omega) only [go_sem, pN_min, pN_max, w_u32, w_u64, Option.isNone_some, Option.isNone_none]; (try simp only [wrap_u32, wrap_u64]); rfl)) ?_ | fail)
  exact hQ _ hS.to

set_option maxHeartbeats 2000000 in
theorem Get_sum (hS : Sat E w M) [hr : Rds cd_uint8 M s l] (hl : 512 ≤ l.length) (hl2 : l.length ≤ 140737488355328) (hne : (l.drop 148).take (156 - 148) ≠ A.sumField l) (hQ : ∀ w, Sat E w M → Q (.tuple #[.agg T_api_Item.zero.enc.toArray, .int .i64 0, .int .i64 3]) w) :
    Calls Tryd.prog 11 #[.slice s.a l.length s.c] w (retP Q) := by
  refine tar_Get.calls ?_
  unfold tar_Get.F
  have hl8 : ((l.drop 148).take (156 - 148)).length = 156 - 148 := by rw [List.length_take, List.length_drop]; omega
  have hf8 := sumField_len l
  repeat' (first | (refine pN_lss_s ?_ ?_ <;> intro hc <;> try (exfalso; omega)) | refine pIf_f ?_ | (refine pDr_go hS ?_; clear hS; intro w hS) | (refine pN_nz hS ?_; clear hS; intro a w hS) | refine pN_via (by (intro K; simp (disch := omega) only [go_sem, pN_min, pN_max, w_u32, w_u64, Option.isNone_some, Option.isNone_none]; (try simp only [wrap_u32, wrap_u64]); rfl)) ?_ | fail)
  refine pA_sl2w (C := cd_uint8) (s := s) (l := l) hS 148 156 rfl rfl rfl (by omega) (by omega) ?_
  intro hp
  generalize (l.drop 148).take (156 - 148) = t at *
  rw [← hl8]
  refine pc_tar_sum (sum_ok (l := l) hS hl hl2 fun s2 w hS => ?_)
  rw [← hf8]
  refine ⟨trivial, ?_⟩
  refine pc_bytes_Equal (Equal_ok (l := t) (r := A.sumField l) (s := s.sub 148 cd_uint8.size) (s2 := s2) hS ?_)
  rw [decide_eq_false hne]
  refine ⟨trivial, ?_⟩
  repeat' (first | refine pIf_t ?_ | refine pL_ra hS (by rfl) ?_ | (refine pN_sa hS (by rfl) (by rfl) (by rfl) ?_; clear hS; intro w hS; try dsimp only at hS) | refine pN_via (by (intro K; simp (disch := omega) only [go_sem, pN_min, pN_max, w_u32, w_u64, Option.isNone_some, Option.isNone_none]; (try simp only [wrap_u32, wrap_u64]); rfl)) ?_ | refine pA_via (by (intro K; simp (disch := omega) only [go_sem, pN_min, pN_max, w_u32, w_u64, Option.isNone_some, Option.isNone_none]; (try simp only [wrap_u32, wrap_u64]); rfl)) ?_ | fail)
  exact hQ _ hS.to
end

end Go.Proofs.YteeepkimnpabiaaDoor

namespace Go.Proofs.YteeepkimnpabiaaDoor
open Go
set_option linter.unusedSimpArgs false
set_option linter.unnecessarySimpa false
set_option linter.unusedSectionVars false
set_option linter.unusedVariables false
namespace A

theorem digit_inj {a b : Int} (ha : 0 ≤ a ∧ a < 8) (hb : 0 ≤ b ∧ b < 8) (h : (48 + byteOf a : UInt8) = 48 + byteOf b) : a = b := by
  have h1 := congrArg UInt8.toNat h
  have e : ∀ c : Int, 0 ≤ c ∧ c < 8 → ((48 + byteOf c : UInt8).toNat : Int) = 48 + c := fun c hc => by
    have h2 := byteOf_nat c
    rw [UInt8.toNat_add, h2]
    have : (48 : UInt8).toNat = 48 := rfl
    omega
  have ea := e a ha
  have eb := e b hb
  omega
theorem oct_inj (v u : Int) : ∀ n, oct v n = oct u n → v % 8 ^ n = u % 8 ^ n
  | 0, _ => by rw [Int.pow_zero]; omega
  | n + 1, h => by
    simp only [oct, List.cons.injEq] at h
    have ih := oct_inj v u n h.2
    have hd := digit_inj (a := v / 8 ^ n % 8) (b := u / 8 ^ n % 8) (by omega) (by omega) h.1
    have key : ∀ z : Int, z % 8 ^ (n + 1) = z / 8 ^ n % 8 * 8 ^ n + z % 8 ^ n := fun z => by
      have hp : (0 : Int) < 8 ^ n := Int.pow_pos (by omega)
      rw [Int.pow_succ]
      generalize (8 : Int) ^ n = p at *
      have h1 := Int.emod_def (z / p) 8
      have h2 := Int.mul_ediv_add_emod z p
      have h3 := Int.emod_def z (p * 8)
      rw [← Int.ediv_ediv_of_nonneg (Int.le_of_lt hp)] at h3
      rw [h3, h1]
      generalize z / p = q at *
      generalize q / 8 = c at *
      grind
    rw [key, key, ih, hd]
theorem oct6_inj {a b : Nat} (ha : a < 262144) (hb : b < 262144) (h : oct (a : Int) 6 = oct (b : Int) 6) : a = b := by
  have h1 := oct_inj a b 6 h
  have e : (8 : Int) ^ 6 = 262144 := by decide
  rw [e] at h1
  omega
theorem sumTo_congr {l m : List UInt8} : ∀ j, (∀ i, i < j → ¬ (148 ≤ i ∧ i < 156) → l.getD i 0 = m.getD i 0) → sumTo l j = sumTo m j
  | 0, _ => rfl
  | j + 1, h => by
    rw [sumTo, sumTo, sumTo_congr j fun i hi hn => h i (by omega) hn]
    split
    · rfl
    · rename_i hn
      rw [h j (by omega) hn]
theorem getD_set {l : List UInt8} {i j : Nat} {b : UInt8} (hi : i < l.length) : (l.set i b).getD j 0 = if i = j then b else l.getD j 0 := by
  rw [List.getD_eq_getElem?_getD, List.getD_eq_getElem?_getD, List.getElem?_set]
  split
  · rename_i h
    subst h
    try rw [if_pos hi]
    rfl
  · rfl
theorem sumTo_set {l : List UInt8} {i : Nat} {b : UInt8} (hi : i < l.length) (hn : ¬ (148 ≤ i ∧ i < 156)) : ∀ j, sumTo (l.set i b) j + (if i < j then (l.getD i 0).toNat else 0) = sumTo l j + (if i < j then b.toNat else 0)
  | 0 => rfl
  | j + 1 => by
    have ih := sumTo_set (l := l) (b := b) hi hn j
    rw [sumTo, sumTo, getD_set hi]
    by_cases hij : i = j
    · subst hij
      have a1 : ¬ i < i := by omega
      have a2 : i < i + 1 := by omega
      simp only [if_true, if_false, a1, a2, hn] at ih ⊢
      omega
    · by_cases h2 : i < j
      · have a2 : i < j + 1 := by omega
        simp only [hij, if_false, if_true, h2, a2] at ih ⊢
        omega
      · have a2 : ¬ i < j + 1 := by omega
        simp only [hij, if_false, h2, a2] at ih ⊢
        omega
/-- What a header's field of the sum should hold. -/
def Told (l : List UInt8) : Prop := (l.drop 148).take (156 - 148) = sumField l
theorem sub8_get (l : List UInt8) (k : Nat) (h : k < 8) : ((l.drop 148).take (156 - 148))[k]? = l[148 + k]? := by
  rw [List.getElem?_take, if_pos (by omega), List.getElem?_drop]
theorem sumOf_bd (l : List UInt8) : sumOf l < 262144 := by
  have := sumTo_bd l 512
  unfold sumOf
  omega
/-- One byte changed is told. -/
theorem told_set {l : List UInt8} (h : Told l) (hl : 512 ≤ l.length) {i : Nat} {b : UInt8} (hi : i < 512) (hb : l[i]? ≠ some b) : ¬ Told (l.set i b) := by
  intro h2
  unfold Told at h h2
  by_cases hn : 148 ≤ i ∧ i < 156
  · have e : sumField (l.set i b) = sumField l := by
      unfold sumField sumOf
      rw [sumTo_congr (l := l.set i b) (m := l) 512 fun j _ hj => by rw [getD_set (by omega), if_neg (by omega)]]
    rw [e, ← h] at h2
    have h3 := congrArg (fun t => t[i - 148]?) h2
    simp only [sub8_get _ _ (show i - 148 < 8 by omega)] at h3
    rw [show 148 + (i - 148) = i from by omega, List.getElem?_set, if_pos rfl, if_pos (by omega)] at h3
    exact hb h3.symm
  · have e : ((l.set i b).drop 148).take (156 - 148) = (l.drop 148).take (156 - 148) := by
      apply List.ext_getElem?
      intro k
      by_cases hk : k < 8
      · rw [sub8_get _ _ hk, sub8_get _ _ hk, List.getElem?_set, if_neg (by omega)]
      · rw [List.getElem?_take, List.getElem?_take, if_neg (by omega), if_neg (by omega)]
    rw [e, h] at h2
    have h3 := sumTo_set (l := l) (b := b) (by omega) hn 512
    rw [if_pos hi, if_pos hi] at h3
    have h4 : oct (sumOf l : Nat) 6 = oct (sumOf (l.set i b) : Nat) 6 := by
      have h5 := congrArg (List.take 6) h2
      unfold sumField at h5
      rwa [List.take_left' (oct_len _ _), List.take_left' (oct_len _ _)] at h5
    have h6 := oct6_inj (sumOf_bd l) (sumOf_bd _) h4
    unfold sumOf at h6
    have h7 : (l.getD i 0).toNat = b.toNat := by omega
    have h8 := UInt8.toNat_inj.1 h7
    refine hb ?_
    rw [List.getD_eq_getElem?_getD, List.getElem?_eq_getElem (show i < l.length by omega)] at h8
    rw [List.getElem?_eq_getElem (show i < l.length by omega)]
    exact congrArg some h8
theorem getD_app {a b : List UInt8} {j : Nat} : (a ++ b).getD j 0 = if j < a.length then a.getD j 0 else b.getD (j - a.length) 0 := by
  rw [List.getD_eq_getElem?_getD, List.getElem?_append]
  split
  · rw [List.getD_eq_getElem?_getD]
  · rw [List.getD_eq_getElem?_getD]
/-- What Put makes is right. -/
theorem told_header {x : T_api_Item} (h : Fits x) (n : Int) (more : List UInt8) : Told (header x n ++ more) := by
  have h1 := front_len h n
  have h2 := back_len h
  have h3 := sumField_len (made x n 12)
  have e : sumField (header x n ++ more) = sumField (made x n 12) := by
    unfold sumField sumOf
    rw [sumTo_congr (l := header x n ++ more) (m := made x n 12) 512 fun j hj hn => ?_]
    rw [made_12 h n, header]
    generalize sumField (made x n 12) = f at *
    rw [List.append_assoc, List.append_assoc, List.append_assoc, getD_app, getD_app (a := front x n)]
    split
    · rfl
    · rw [h1, getD_app, getD_app (a := List.replicate 8 0), h3, List.length_replicate, if_neg (by omega), if_neg (by omega), getD_app, if_pos (by omega)]
  unfold Told
  rw [e, header]
  generalize sumField (made x n 12) = f at *
  rw [List.append_assoc, List.append_assoc, List.drop_left' h1, List.take_left' h3]
theorem told_put {x : T_api_Item} (h : Fits x) : Told (putB x) := by
  rw [putB, List.append_assoc]
  exact told_header h _ _
end A
end Go.Proofs.YteeepkimnpabiaaDoor

namespace Go.Proofs.YteeepkimnpabiaaDoor
open Go
set_option linter.unusedSimpArgs false
set_option linter.unnecessarySimpa false
set_option linter.unusedSectionVars false
set_option linter.unusedVariables false

section
variable [Pan] {P : Program} {E w : World} {K : Value → World → Prop} {J : Value → Prop} {L M : List HA} {v : Value} {t : TypeId} {o : Ob} {b i n : Nat}

theorem run_la_at (hS : Sat E w L) [h : Fnd (cel b) L o M] [Ag P t n] (cs : List Value) (hc : (o.cs.drop i).take n = cs) (hn : n = cs.length) : (oLoad t (.pointer (some ⟨b, i, none⟩))).run P w = .ok (.value (.agg cs.toArray)) w := by
  have hl := cells_of_blk (o := i) (cel_at (b := b) hS) n
  rw [List.toList_toArray, hc] at hl
  exact run_load_agg Ag.ag (by rw [← hn]; exact Ag.sz) hl
theorem pN_la_at (hS : Sat E w L) [h : Fnd (cel b) L o M] [Ag P t n] (cs : List Value) (hc : (o.cs.drop i).take n = cs) (hn : n = cs.length) (hk : K (.agg cs.toArray) w) : pN P (oLoad t (.pointer (some ⟨b, i, none⟩))) w K := by
  rw [pN_def, run_la_at hS cs hc hn, rN_value]; exact hk
theorem pL_la_at (hS : Sat E w L) [h : Fnd (cel b) L o M] [Ag P t n] (cs : List Value) (hc : (o.cs.drop i).take n = cs) (hn : n = cs.length) (hk : J (.agg cs.toArray)) : pL P (oLoad t (.pointer (some ⟨b, i, none⟩))) w J :=
  ⟨_, run_la_at hS cs hc hn, hk⟩
theorem pN_sa_at {us : List Value} (hS : Sat E w L) [h : Fnd (cel b) L o M] [Ag P t n] (hn : n = us.length) (hi : i + us.length ≤ o.cs.length) (h1 : us.all (·.oneCell') = true)
    (hk : ∀ w', Sat E w' (cel b ⟨o.e, o.cs.take i ++ us ++ o.cs.drop (i + us.length)⟩ :: M) → K undef w') : pN P (oStore t (.pointer (some ⟨b, i, none⟩)) (.agg us.toArray)) w K := by
  refine pN_st_part (hS.fd (cel b)) Ag.sz (by simpa using hn) (by simpa using List.all_eq_true.1 h1) (by simpa using hi) fun w' hS' => hk w' ?_
  simpa [cel] using hS'

/-- A closure deferred. -/
theorem pDf_fn {fn : Fn} {first cap args : List Value} {K : Deferred → Prop} (hk : K { target := .fn fn cap.toArray, args := first.toArray ++ args.toArray }) : pDf P (oDf (.func fn first.toArray cap.toArray) args) w K := ⟨_, rfl, hk⟩

theorem dE_of {f : FuncId} {cap args : List Value} {u u2 : FrameMode} {K : World → Prop} {Q : Value → World → Prop} (hi : ∀ (args : Array Value) (w : World), (callFunc f args).run P w = .ok (.enter f args) w) (hu : settle u2 = .returning) (hk : ∀ r w, Q r w → K w)
    (h : CallsD P f (args ++ cap).toArray u w fun e u' w' => u' = u2 ∧ ∃ r, e = .returned r ∧ Q r w') : dE P { target := .fn (.func f) cap.toArray, args := #[] ++ args.toArray } u w K := by
  refine ⟨.func f, cap.toArray, f, (args ++ cap).toArray, rfl, ?_, h.mono fun e u' w' he => ?_⟩
  · show (callFunc f _).run P w = _
    rw [hi]
    simp
  · obtain ⟨rfl, r, rfl, hq⟩ := he
    exact ⟨⟨r, rfl⟩, hu, hk _ _ hq⟩
end

/-- A panic. -/
theorem pN_panic [Z : Pan] {P : Program} {w : World} {K : Value → World → Prop} {t : TypeId} {v : Value} (hr : (oPanic (.iface t v)).run P w = .halt (.panic (.iface t v)) w) (h : Z.z [{ v := .iface t v, recovered := false }] w) : pN P (oPanic (.iface t v)) w K := by
  rw [pN_def, hr]
  exact h

/-- or of a number and what lies below it. -/
theorem or_low (n : Nat) (a b : Int) (j : Nat) (ha : 0 ≤ a) (hb : 0 ≤ b) (hb2 : b < 2 ^ j) (h : a * 2 ^ j + b < 2 ^ n) : ((BitVec.ofInt n (a * 2 ^ j) ||| BitVec.ofInt n b).toNat : Int) = a * 2 ^ j + b := by
  obtain ⟨a, rfl⟩ := Int.eq_ofNat_of_zero_le ha
  obtain ⟨b, rfl⟩ := Int.eq_ofNat_of_zero_le hb
  have hb3 : b < 2 ^ j := by exact_mod_cast hb2
  have h2 : a * 2 ^ j + b < 2 ^ n := by exact_mod_cast h
  have e1 : ((a : Int) * 2 ^ j) = ((a * 2 ^ j : Nat) : Int) := by push_cast; rfl
  have e2 : (BitVec.ofInt n ((a * 2 ^ j : Nat) : Int)).toNat = a * 2 ^ j := by
    rw [BitVec.toNat_ofInt]
    norm_cast
    rw [Int.toNat_natCast]
    exact Nat.mod_eq_of_lt (by omega)
  have e3 : (BitVec.ofInt n (b : Int)).toNat = b := by
    rw [BitVec.toNat_ofInt]
    norm_cast
    rw [Int.toNat_natCast]
    exact Nat.mod_eq_of_lt (by omega)
  rw [e1, BitVec.toNat_or, e2, e3, Nat.mul_comm a, ← Nat.two_pow_add_eq_or_of_lt hb3]
  push_cast
  rfl

end Go.Proofs.YteeepkimnpabiaaDoor

namespace Go.Proofs.YteeepkimnpabiaaDoor
open Go
set_option linter.unusedSimpArgs false
set_option linter.unnecessarySimpa false
set_option linter.unusedSectionVars false
set_option linter.unusedVariables false

namespace A
theorem text_len : ∀ (l : List UInt8), (text l).length ≤ l.length
  | [] => Nat.le_refl _
  | c :: l => by
    have := text_len l
    rw [text]
    split
    · simp
    · simp only [List.length_cons]; omega
/-- What stands in a field of a header. -/
def fS (k : Nat) (l : List UInt8) : List UInt8 := (l.drop (fAt k)).take (fAt k + fN k - fAt k)
theorem fS_len {l : List UInt8} (h : 512 ≤ l.length) {k : Nat} (hk : k < 12) : (fS k l).length = fN k := by
  have := fAt_end k hk
  rw [fS, List.length_take, List.length_drop]
  omega
/-- A field read. -/
def readK (l : List UInt8) : Nat → T_api_Item × Int → T_api_Item × Int
  | 0, p => ({ p.1 with Name := text (fS 0 l) }, p.2)
  | 1, p => ({ p.1 with Mode := num ((fS 1 l).take (8 - 1)) }, p.2)
  | 4, p => (p.1, num ((fS 4 l).take (12 - 1)))
  | 5, p => ({ p.1 with Time := num ((fS 5 l).take (12 - 1)) }, p.2)
  | 6, p => ({ p.1 with Kind := ixb [48, 53, 50] ((fS 6 l).getD 0 0) }, p.2)
  | 7, p => ({ p.1 with Link := text (fS 7 l) }, p.2)
  | 11, p => (if text (fS 11 l) = [] then p.1 else { p.1 with Name := text (fS 11 l) ++ (47 :: p.1.Name) }, p.2)
  | _, p => p
def readTo (l : List UInt8) : Nat → T_api_Item × Int
  | 0 => (T_api_Item.zero, 0)
  | k + 1 => readK l k (readTo l k)
theorem readTo_next (l : List UInt8) (k : Nat) : readTo l (k + 1) = readK l k (readTo l k) := rfl
theorem readTo_1 {l : List UInt8} (hl : 512 ≤ l.length) : ∀ k, k ≤ 11 → (readTo l k).1.Name.length ≤ 100
  | 0, _ => Nat.zero_le _
  | 1, _ => by
    have := text_len (fS 0 l)
    rw [fS_len hl (by omega)] at this
    exact this
  | 2, h => readTo_1 hl 1 (by omega)
  | 3, h => readTo_1 hl 1 (by omega)
  | 4, h => readTo_1 hl 1 (by omega)
  | 5, h => readTo_1 hl 1 (by omega)
  | 6, h => readTo_1 hl 1 (by omega)
  | 7, h => readTo_1 hl 1 (by omega)
  | 8, h => readTo_1 hl 1 (by omega)
  | 9, h => readTo_1 hl 1 (by omega)
  | 10, h => readTo_1 hl 1 (by omega)
  | 11, h => readTo_1 hl 1 (by omega)
  | k + 12, h => by omega
theorem readTo_bd {l : List UInt8} (hl : 512 ≤ l.length) : (readTo l 12).1.Name.length ≤ 256 ∧ (readTo l 12).1.Link.length ≤ 100 ∧ 0 ≤ (readTo l 12).2 ∧ (readTo l 12).2 < 8589934592 ∧ (readTo l 12).1.Data = (⟨none, 0⟩, []) := by
  have h0 := readTo_1 hl 11 (by omega)
  have hp := text_len (fS 11 l)
  have h7 := text_len (fS 7 l)
  rw [fS_len hl (by omega)] at hp h7
  have hp : (text (fS 11 l)).length ≤ 155 := hp
  have h7 : (text (fS 7 l)).length ≤ 100 := h7
  have hn := num_bd 11 ((fS 4 l).take (12 - 1)) (by rw [List.length_take, fS_len hl (by omega)]; rfl)
  have e : readTo l 12 = readK l 11 (readTo l 11) := rfl
  have e2 : (readTo l 11).2 = num ((fS 4 l).take (12 - 1)) := rfl
  have e3 : (readTo l 11).1.Link = text (fS 7 l) := rfl
  have e4 : (readTo l 11).1.Data = (⟨none, 0⟩, []) := rfl
  have e8 : (8 : Int) ^ 11 = 8589934592 := by decide
  rw [e]
  generalize readTo l 11 = p at *
  simp only [readK]
  split
  · exact ⟨by omega, by rw [e3]; exact h7, by rw [e2]; exact hn.1, by rw [e2]; omega, e4⟩
  · refine ⟨?_, by show p.1.Link.length ≤ _; rw [e3]; exact h7, by rw [e2]; exact hn.1, by rw [e2]; omega, e4⟩
    simp only [List.length_append, List.length_cons]
    omega
def Zs (l : List UInt8) : Prop := ∀ b ∈ l, b = 0
instance (l : List UInt8) : Decidable (Zs l) := inferInstanceAs (Decidable (∀ b ∈ l, b = 0))
/-- What Get answers: the error; how many bytes; the item's data. -/
def getE2 (l : List UInt8) (x : T_api_Item) (n : Int) : Int :=
  if wrong x ≠ 0 ∨ (x.Kind ≠ 0 ∧ 0 < n) ∨ header x n ≠ l.take 512 then 2
  else if l.length < 512 + n.toNat + padn n.toNat then 1
  else if Zs ((l.drop (512 + n.toNat)).take (512 + n.toNat + padn n.toNat - (512 + n.toNat))) then 0 else 2
def getE (l : List UInt8) : Int :=
  if l.length < 512 then 1
  else if (l.drop 148).take (156 - 148) ≠ sumField l then 3
  else getE2 l (readTo l 12).1 (readTo l 12).2
def getN (l : List UInt8) : Nat := 512 + (readTo l 12).2.toNat + padn (readTo l 12).2.toNat
def getL (l : List UInt8) : List UInt8 := (l.drop 512).take (512 + (readTo l 12).2.toNat - 512)
def getX (l : List UInt8) (s : Sl) : T_api_Item := { (readTo l 12).1 with Data := (s, getL l) }
end A
theorem readK_none : ∀ (k : Nat), rf k = none → ∀ (l : List UInt8) (p : T_api_Item × Int), A.readK l k p = p
  | 0, h, _, _ => by cases h
  | 1, h, _, _ => by cases h
  | 2, _, _, _ => rfl
  | 3, _, _, _ => rfl
  | 4, h, _, _ => by cases h
  | 5, h, _, _ => by cases h
  | 6, h, _, _ => by cases h
  | 7, h, _, _ => by cases h
  | 8, _, _, _ => rfl
  | 9, _, _, _ => rfl
  | 10, _, _, _ => rfl
  | 11, h, _, _ => by cases h
  | k + 12, _, _, _ => rfl

attribute [local irreducible] oMv oV oU oCall oCallV oBi oBin oUn oLoad oStore oNil oFld oField oIdx oIndex oPick oAlloc oBox oBuild oBs oConv oMk oSl oExt oFn oIface oMap oLook oMapUp oRange oNext oAssert oPanic oRes pN pA pL pDr pIf gA pGd Calls A.made A.header A.oct A.wrong A.padn A.putB A.fS A.num A.text A.readTo
section
variable [Pan] {E w : World} {K Q : Value → World → Prop} {L M : List HA} {l r : List UInt8} {s s2 : Sl}

instance fnyR : FnY Tryd.prog 71 := ⟨⟨_, _, _, Tryd.underlying71⟩⟩
theorem rf_call (k g : Nat) (h : rf k = some g) (args : Array Value) (w : World) : (callFunc g args).run Tryd.prog w = .ok (.enter g args) w := by
  unfold rf at h
  split at h <;> cases h
  · exact call_tar_fields_c2 args w
  · exact call_tar_fields_c4 args w
  · exact call_tar_fields_c6 args w
  · exact call_tar_fields_c8 args w
  · exact call_tar_fields_c10 args w
  · exact call_tar_fields_c12 args w
  · exact call_tar_fields_c15 args w

set_option maxHeartbeats 2000000 in
theorem read_ok {h : Nat} {x : T_api_Item} {n : Int} (hn : x.Name.length ≤ 100) (hl : 512 ≤ l.length) (k g : Nat) (hg : rf k = some g) (hS : Sat E w (headP h x n :: M)) [hr : Rds cd_uint8 M s l]
    (hQ : ∀ w, Sat E w (headP h (A.readK l k (x, n)).1 (A.readK l k (x, n)).2 :: M) → Q (.tuple #[]) w) :
    Calls Tryd.prog g #[.slice (s.sub (A.fAt k) cd_uint8.size).a (A.fN k) (s.sub (A.fAt k) cd_uint8.size).c, .pointer (some ⟨h, 0, none⟩)] w (retP Q) := by
  have hk : k < 12 := by
    by_cases hk : k < 12
    · exact hk
    · exfalso
      unfold rf at hg
      split at hg <;> first | omega | cases hg
  have hp : Rds cd_uint8 (headP h x n :: M) (s.sub (A.fAt k) cd_uint8.size) (A.fS k l) := by
    have := A.fAt_end k hk
    haveI : Rds cd_uint8 (headP h x n :: M) s l := inferInstance
    unfold A.fS
    exact Rds.sub (C := cd_uint8) (L := headP h x n :: M) (s := s) (l := l) (A.fAt k) (A.fAt k + A.fN k) (by omega) (by omega)
  have hfl := A.fS_len hl hk
  have hn100 : A.fN k ≤ 155 := by
    match k, hk with
    | 0, _ | 1, _ | 2, _ | 3, _ | 4, _ | 5, _ | 6, _ | 7, _ | 8, _ | 9, _ | 10, _ | 11, _ => decide
    | k + 12, hk => omega
  have hf0 := A.fN_pos k hk
  rw [← hfl]
  rw [← hfl] at hn100 hf0
  unfold rf at hg
  split at hg <;> cases hg
  · refine tar_fields_c2.calls ?_
    unfold tar_fields_c2.F
    refine pc_tar_text (text_ok hS (by omega) fun w hS => ?_)
    unfold headP at *
    repeat' (first | (refine pN_s hS (by first | exact Nat.le_of_ble_eq_true rfl | assumption) (by rfl) ?_; clear hS; intro w hS; try simp only [List.set_cons_zero, List.set_cons_succ] at hS) | refine pN_via (by (intro K; simp (disch := omega) only [go_sem, pN_min, pN_max, w_u32, w_u64, Option.isNone_some, Option.isNone_none]; (try simp only [wrap_u32, wrap_u64]); rfl)) ?_ | fail)
    exact hQ _ hS
  · refine tar_fields_c4.calls ?_
    unfold tar_fields_c4.F
    refine pc_tar_number (number_ok hS hf0 (by rw [hfl]; decide) ?_)
    rw [hfl]
    unfold headP at *
    repeat' (first | (refine pN_s hS (by first | exact Nat.le_of_ble_eq_true rfl | assumption) (by rfl) ?_; clear hS; intro w hS; try simp only [List.set_cons_zero, List.set_cons_succ] at hS) | refine pN_via (by (intro K; simp (disch := omega) only [go_sem, pN_min, pN_max, w_u32, w_u64, Option.isNone_some, Option.isNone_none]; (try simp only [wrap_u32, wrap_u64]); rfl)) ?_ | fail)
    exact hQ _ hS
  · refine tar_fields_c6.calls ?_
    unfold tar_fields_c6.F
    refine pc_tar_number (number_ok hS hf0 (by rw [hfl]; decide) ?_)
    rw [hfl]
    unfold headP at *
    repeat' (first | (refine pN_s hS (by first | exact Nat.le_of_ble_eq_true rfl | assumption) (by rfl) ?_; clear hS; intro w hS; try simp only [List.set_cons_zero, List.set_cons_succ] at hS) | refine pN_via (by (intro K; simp (disch := omega) only [go_sem, pN_min, pN_max, w_u32, w_u64, Option.isNone_some, Option.isNone_none]; (try simp only [wrap_u32, wrap_u64]); rfl)) ?_ | fail)
    exact hQ _ hS
  · refine tar_fields_c8.calls ?_
    unfold tar_fields_c8.F
    refine pc_tar_number (number_ok hS hf0 (by rw [hfl]; decide) ?_)
    rw [hfl]
    unfold headP at *
    repeat' (first | (refine pN_s hS (by first | exact Nat.le_of_ble_eq_true rfl | assumption) (by rfl) ?_; clear hS; intro w hS; try simp only [List.set_cons_zero, List.set_cons_succ] at hS) | refine pN_via (by (intro K; simp (disch := omega) only [go_sem, pN_min, pN_max, w_u32, w_u64, Option.isNone_some, Option.isNone_none]; (try simp only [wrap_u32, wrap_u64]); rfl)) ?_ | fail)
    exact hQ _ hS
  · refine tar_fields_c10.calls ?_
    unfold tar_fields_c10.F
    have e : (.string ⟨#[48, 53, 50]⟩ : Value) = .string ⟨List.toArray [48, 53, 50]⟩ := rfl
    rw [e]
    have hl1 : (A.fS 6 l).length = 1 := hfl
    have hd : ∀ y, (A.fS 6 l)[0]? = some y → (A.fS 6 l).getD 0 0 = y := fun y hy => by rw [List.getD_eq_getElem?_getD, hy]; rfl
    unfold headP at *
    repeat' (first | (refine pc_strings_IndexByte (sIndexByte_ok _ ?_)) | refine pN_ld1 ha hS ?_ | (refine pN_s hS (by first | exact Nat.le_of_ble_eq_true rfl | assumption) (by rfl) ?_; clear hS; intro w hS; try simp only [List.set_cons_zero, List.set_cons_succ] at hS) | refine pN_ix hS _ (by first | rfl | (exact (Int.toNat_of_nonneg (by omega)).symm)) (by first | rfl | omega | simpa only [go_sem] using True.intro | (simp only [go_sem]; omega)) (by first | omega | (simp only [go_sem]; omega)) fun a x hx ha hel => ?_ | refine pN_via (by (intro K; simp (disch := omega) only [go_sem, pN_min, pN_max, w_u32, w_u64, Option.isNone_some, Option.isNone_none]; (try simp only [wrap_u32, wrap_u64]); rfl)) ?_ | fail)
    rw [← hd _ hx] at hS
    exact hQ _ hS
  · refine tar_fields_c12.calls ?_
    unfold tar_fields_c12.F
    refine pc_tar_text (text_ok hS (by omega) fun w hS => ?_)
    unfold headP at *
    repeat' (first | (refine pN_s hS (by first | exact Nat.le_of_ble_eq_true rfl | assumption) (by rfl) ?_; clear hS; intro w hS; try simp only [List.set_cons_zero, List.set_cons_succ] at hS) | refine pN_via (by (intro K; simp (disch := omega) only [go_sem, pN_min, pN_max, w_u32, w_u64, Option.isNone_some, Option.isNone_none]; (try simp only [wrap_u32, wrap_u64]); rfl)) ?_ | fail)
    exact hQ _ hS
  · refine tar_fields_c15.calls ?_
    unfold tar_fields_c15.F
    have e : (.string ⟨#[47]⟩ : Value) = .string ⟨List.toArray [47]⟩ := rfl
    have e0 : (.string ⟨#[]⟩ : Value) = .string ⟨List.toArray []⟩ := rfl
    rw [e, e0]
    refine pc_tar_text (text_ok hS (by omega) fun w hS => ?_)
    have ht := A.text_len (A.fS 11 l)
    unfold headP at *
    simp only [A.readK] at hQ
    repeat' (first | refine pN_sadd (by first | omega | (simp only [go_sem]; omega)) ?_ | (refine pN_neq_ss ?_ ?_ <;> intro hc <;> try (exfalso; first | omega | exact hc rfl | exact hc (by assumption) | exact absurd hc (by assumption))) | refine pIf_t ?_ | refine pIf_f ?_ | refine pN_l hS (by first | rfl | assumption) ?_ | (refine pN_s hS (by first | exact Nat.le_of_ble_eq_true rfl | assumption) (by rfl) ?_; clear hS; intro w hS; try simp only [List.set_cons_zero, List.set_cons_succ] at hS) | refine pN_via (by (intro K; simp (disch := omega) only [go_sem, pN_min, pN_max, w_u32, w_u64, Option.isNone_some, Option.isNone_none]; (try simp only [wrap_u32, wrap_u64]); rfl)) ?_ | fail)
    · rename_i hc
      rw [if_pos hc] at hQ
      exact hQ _ hS
    · rename_i hc
      rw [if_neg hc] at hQ
      rw [List.append_assoc, List.singleton_append] at hS
      exact hQ _ hS

theorem Equal_n {n m : Nat} (hn : n = l.length) (hm : m = r.length) (hS : Sat E w L) (hr : Rds cd_uint8 L s l) (hr2 : Rds cd_uint8 L s2 r) (hQ : Q (.bool (decide (l = r))) w) : Calls Tryd.prog 29 #[.slice s.a n s.c, .slice s2.a m s2.c] w (retP Q) := by
  subst hn hm
  exact Equal_ok hS hQ
theorem zero_n {n : Nat} (hn : n = l.length) (hS : Sat E w L) (hr : Rds cd_uint8 L s l) (hQ : Q (.bool (decide (A.Zs l))) w) : Calls Tryd.prog 32 #[.slice s.a n s.c] w (retP Q) := by
  subst hn
  exact zero_ok hS hQ

set_option maxHeartbeats 4000000 in
set_option maxRecDepth 4000 in
theorem Get_ok (hS : Sat E w M) [hr : Rds cd_uint8 M s l] (hl2 : l.length ≤ 140737488355328)
    (hno : A.getE l ≠ 0 → ∀ w, Sat E w M → Q (.tuple #[.agg T_api_Item.zero.enc.toArray, .int .i64 0, .int .i64 (A.getE l)]) w)
    (hok : A.getE l = 0 → ∀ s w, Sat E w (rows cd_uint8 s (A.getL l) :: M) → Q (.tuple #[.agg (A.getX l s).enc.toArray, .int .i64 (A.getN l : Nat), .int .i64 0]) w) :
    Calls Tryd.prog 11 #[.slice s.a l.length s.c] w (retP Q) := by
  by_cases hl : 512 ≤ l.length
  rotate_left 1
  · have he : A.getE l = 1 := by rw [A.getE, if_pos (by omega)]
    rw [he] at hno
    refine tar_Get.calls ?_
    unfold tar_Get.F
    repeat' (first | (refine pN_lss_s ?_ ?_ <;> intro hc <;> try (exfalso; omega)) | refine pIf_t ?_ | refine pL_ra hS (by rfl) ?_ | (refine pN_sa hS (by rfl) (by rfl) (by rfl) ?_; clear hS; intro w hS; try dsimp only at hS) | (refine pN_nz hS ?_; clear hS; intro a w hS) | refine pN_via (by (intro K; simp (disch := omega) only [go_sem, pN_min, pN_max, w_u32, w_u64, Option.isNone_some, Option.isNone_none]; (try simp only [wrap_u32, wrap_u64]); rfl)) ?_ | fail)
    exact hno (by decide) _ hS.to
  by_cases ht : (l.drop 148).take (156 - 148) = A.sumField l
  rotate_left 1
  · have he : A.getE l = 3 := by rw [A.getE, if_neg (by omega), if_pos ht]
    rw [he] at hno
    exact Get_sum hS hl hl2 ht (hno (by decide))
  obtain ⟨z, hz⟩ : ∃ z, A.getE l = z := ⟨_, rfl⟩
  have he := hz
  rw [A.getE, if_neg (by omega), if_neg (fun h => h ht)] at he
  rw [hz] at hno hok
  have hb := A.readTo_bd hl
  refine tar_Get.calls ?_
  unfold tar_Get.F
  have hl8 : ((l.drop 148).take (156 - 148)).length = 156 - 148 := by rw [List.length_take, List.length_drop]; omega
  have hf8 := sumField_len l
  repeat' (first | (refine pN_lss_s ?_ ?_ <;> intro hc <;> try (exfalso; omega)) | refine pIf_f ?_ | (refine pDr_go hS ?_; clear hS; intro w hS) | (refine pN_nz hS ?_; clear hS; intro a w hS) | refine pN_via (by (intro K; simp (disch := omega) only [go_sem, pN_min, pN_max, w_u32, w_u64, Option.isNone_some, Option.isNone_none]; (try simp only [wrap_u32, wrap_u64]); rfl)) ?_ | fail)
  rename Nat => x2
  have hS : Sat E w (cel x2 ⟨24, T_api_Item.zero.enc⟩ :: M) := hS
  refine pA_sl2w (C := cd_uint8) (s := s) (l := l) hS 148 156 rfl rfl rfl (by omega) (by omega) ?_
  intro hp
  generalize (l.drop 148).take (156 - 148) = t at *
  rw [← hl8]
  refine pc_tar_sum (sum_ok (l := l) hS hl hl2 fun s2 w hS => ?_)
  rw [← hf8]
  refine ⟨trivial, ?_⟩
  refine pc_bytes_Equal (Equal_ok (l := t) (r := A.sumField l) (s := s.sub 148 cd_uint8.size) (s2 := s2) hS ?_)
  rw [decide_eq_true ht]
  refine ⟨trivial, ?_⟩
  repeat' (first | refine pIf_f ?_ | (refine pN_nz hS ?_; clear hS; intro a w hS) | refine pA_via (by (intro K; simp (disch := omega) only [go_sem, pN_min, pN_max, w_u32, w_u64, Option.isNone_some, Option.isNone_none]; (try simp only [wrap_u32, wrap_u64]); rfl)) ?_ | fail)
  have hS : Sat E w (headP a (A.readTo l 0).1 (A.readTo l 0).2 :: rows cd_uint8 s2 (A.sumField l) :: cel x2 ⟨24, T_api_Item.zero.enc⟩ :: M) := by unfold A.readTo; exact hS
  rename Nat => hd
  refine pc_tar_fields (fields_ok hS ?_)
  clear hS
  intro sf w hS
  repeat' (first | refine pN_via (by (intro K; simp (disch := omega) only [go_sem, pN_min, pN_max, w_u32, w_u64, Option.isNone_some, Option.isNone_none]; (try simp only [wrap_u32, wrap_u64]); rfl)) ?_ | fail)
  refine ⟨fun v w' => ∃ k : Nat, v = .int .i64 k ∧ k ≤ 12 ∧ Sat E w' (headP hd (A.readTo l k).1 (A.readTo l k).2 :: rows cdF sf flds :: rows cd_uint8 s2 (A.sumField l) :: cel x2 ⟨24, T_api_Item.zero.enc⟩ :: M), fun v _ => 12 - (RowKit.intOf v).toNat, ⟨0, rfl, Nat.zero_le _, hS.to⟩, ?_⟩
  clear hS
  rintro _ _ w ⟨k, rfl, hk, hS⟩
  by_cases hlt : k < 12
  · have hfk := flds_at k hlt
    have hfl : flds.length = 12 := rfl
    have hfe := A.fAt_end k hlt
    have hfn := A.fN_pos k hlt
    have hwr : IntKind.i64.wrap (((fld k).1 : Int) + ((fld k).2.1 : Int)) = ((A.fAt k + A.fN k : Nat) : Int) := by
      show IntKind.i64.wrap ((A.fAt k : Int) + (A.fN k : Int)) = _
      rw [wrap_i64 (by omega)]
      omega
    have hone : (cdF.enc (fld k)).all (·.oneCell') = true := List.all_eq_true.2 fun u hu => cdF.one _ u hu
    repeat' (first | (refine pN_lss_s ?_ ?_ <;> intro hc <;> try (exfalso; omega)) | refine pIf_t ?_ | fail)
    refine ⟨fun w' => Sat E w' (headP hd (A.readTo l (k + 1)).1 (A.readTo l (k + 1)).2 :: rows cdF sf flds :: rows cd_uint8 s2 (A.sumField l) :: cel x2 ⟨24, T_api_Item.zero.enc⟩ :: M), ?_, ?_⟩
    · repeat' (first | refine pN_ld_at ha hS (by rfl) ?_ | (refine pN_nz hS ?_; clear hS; intro a w hS) | refine pN_ixk hS _ (by first | rfl | (exact (Int.toNat_of_nonneg (by omega)).symm)) (by first | rfl | omega | simpa only [go_sem] using True.intro | (simp only [go_sem]; omega)) (by assumption) fun a ha hel => ?_ | fail)
      refine pN_sa (us := cdF.enc (fld k)) hS rfl rfl hone ?_
      clear hS
      intro w hS
      rw [show cdF.enc (fld k) = [.int .i64 (A.fAt k : Nat), .int .i64 (A.fN k : Nat), fnV (some (wf k)), fnV (rf k)] from rfl] at hS
      cases hrk : rf k with
      | none =>
        rw [A.readTo_next, readK_none k hrk]
        simp only [hrk, fnV] at hS
        repeat' (first | refine pN_neq_nilfn ?_ | refine pIf_f ?_ | refine pN_l hS (by first | rfl | assumption) ?_ | refine pN_via (by (intro K; simp (disch := omega) only [go_sem, pN_min, pN_max, w_u32, w_u64, Option.isNone_some, Option.isNone_none]; (try simp only [wrap_u32, wrap_u64]); rfl)) ?_ | fail)
        exact hS.to
      | some g =>
        simp only [hrk, fnV] at hS
        have hcv := fun args w => rf_call k g hrk args w
        repeat' (first | refine pN_neq_fn ?_ | refine pIf_t ?_ | refine pN_l hS (by first | rfl | assumption) ?_ | refine pL_l hS (by first | rfl | assumption) ?_ | (refine pDr_go hS ?_; clear hS; intro w hS) | refine pN_via (by (intro K; simp (disch := omega) only [go_sem, pN_min, pN_max, w_u32, w_u64, Option.isNone_some, Option.isNone_none]; (try simp only [wrap_u32, wrap_u64]); rfl)) ?_ | refine pA_via (by (intro K; simp (disch := omega) only [go_sem, pN_min, pN_max, w_u32, w_u64, Option.isNone_some, Option.isNone_none]; (try simp only [wrap_u32, wrap_u64]); rfl)) ?_ | fail)
        haveI hp0 : Rds cd_uint8 (rows cdF sf flds :: rows cd_uint8 s2 (A.sumField l) :: cel x2 ⟨24, T_api_Item.zero.enc⟩ :: M) s l := inferInstance
        refine pA_sl2w (C := cd_uint8) (s := s) (l := l) hS (A.fAt k) (A.fAt k + A.fN k) rfl (by omega) rfl (by omega) (by omega) ?_
        intro hp
        refine pN_callV (cap := []) hcv ?_
        have e : A.fAt k + A.fN k - A.fAt k = A.fN k := by omega
        rw [e]
        refine read_ok (x := (A.readTo l k).1) (n := (A.readTo l k).2) (M := rows cdF sf flds :: rows cd_uint8 s2 (A.sumField l) :: cel x2 ⟨24, T_api_Item.zero.enc⟩ :: M) (A.readTo_1 hl k (by omega)) hl k g hrk hS.to ?_
        clear hS
        intro w hS
        refine ⟨trivial, ?_⟩
        rw [A.readTo_next]
        exact hS
    · clear hS
      intro _ w hS
      repeat' (first | refine pN_via (by (intro K; simp (disch := omega) only [go_sem, pN_min, pN_max, w_u32, w_u64, Option.isNone_some, Option.isNone_none]; (try simp only [wrap_u32, wrap_u64]); rfl)) ?_ | fail)
      exact ⟨⟨k + 1, rfl, by omega, hS⟩, by simp [RowKit.intOf] <;> omega⟩
  · obtain rfl : k = 12 := by omega
    obtain ⟨⟨⟨name, link, kind, mode, time, data⟩, n⟩, hx⟩ : ∃ p, A.readTo l 12 = p := ⟨_, rfl⟩
    unfold A.getN A.getX A.getL at hok
    rw [hx] at hS hb he hok
    dsimp only at hb he hok
    obtain ⟨b1, b2, b3, b4, rfl⟩ := hb
    repeat' (first | (refine pN_lss_s ?_ ?_ <;> intro hc <;> try (exfalso; omega)) | refine pIf_f ?_ | (refine pDr_go hS ?_; clear hS; intro w hS) | refine pA_via (by (intro K; simp (disch := omega) only [go_sem, pN_min, pN_max, w_u32, w_u64, Option.isNone_some, Option.isNone_none]; (try simp only [wrap_u32, wrap_u64]); rfl)) ?_ | fail)
    unfold headP at hS
    dsimp only at hS
    obtain ⟨y, hy⟩ : ∃ y : T_api_Item, y = ⟨name, link, kind, mode, time, (⟨none, 0⟩, [])⟩ := ⟨_, rfl⟩
    rw [← hy] at hx he
    obtain ⟨nn, rfl⟩ : ∃ nn : Nat, n = nn := ⟨n.toNat, by omega⟩
    rw [Int.toNat_natCast] at hok
    repeat' (first | (refine pL_la_at hS (T_api_Item.enc ⟨name, link, kind, mode, time, (⟨none, 0⟩, [])⟩) rfl rfl ?_) | fail)
    refine pc_tar_wrong (wrong_ok ⟨name, link, kind, mode, time, (⟨none, 0⟩, [])⟩ (by show name.length ≤ _; omega) (by show link.length ≤ _; omega) hS fun w hS => ?_)
    rw [← hy]
    have hk : y.Kind = kind := by rw [hy]
    have hT := A.fits_name (x := y)
    by_cases h0 : A.wrong y = 0
    · by_cases hsz : kind ≠ 0 ∧ 0 < (nn : Int)
      · obtain ⟨hs1, hs2⟩ := hsz
        have hz2 : z = 2 := by rw [← he, A.getE2, if_pos (.inr (.inl ⟨by rw [hk]; exact hs1, hs2⟩))]
        repeat' (first | (refine pA_gtr_s ?_ ?_ <;> intro hc <;> try (exfalso; omega)) | (refine pA_neq_s ?_ ?_ <;> intro hc <;> try (exfalso; first | omega | exact hc rfl | exact hc (by assumption) | exact absurd hc (by assumption))) | refine pIf_t ?_ | refine gA_go (by rfl) ?_ | refine gA_no (by rfl) ?_ | refine pGd_no (by rfl) ?_ | refine pL_l hS (by first | rfl | assumption) ?_ | refine pL_ra hS (by rfl) ?_ | (refine pN_sa hS (by rfl) (by rfl) (by rfl) ?_; clear hS; intro w hS; try dsimp only at hS) | refine ⟨trivial, ?_⟩ | refine pN_via (by (intro K; simp (disch := omega) only [go_sem, pN_min, pN_max, w_u32, w_u64, Option.isNone_some, Option.isNone_none]; (try simp only [wrap_u32, wrap_u64]); rfl)) ?_ | refine pA_via (by (intro K; simp (disch := omega) only [go_sem, pN_min, pN_max, w_u32, w_u64, Option.isNone_some, Option.isNone_none]; (try simp only [wrap_u32, wrap_u64]); rfl)) ?_ | fail)
        rw [hz2] at hno
        exact hno (by decide) _ hS.to
      · obtain ⟨hf, k0, k2, m0, m1, t0, t1, d1, hpt, _, _, _⟩ := A.wrong_0 h0
        have hnl := A.fits_name hpt
        have hhl := header_len hf nn
        have hlt : (l.take 512).length = 512 := by rw [List.length_take]; omega
        have hpe : (512 - nn % 512) % 512 = A.padn nn := by unfold A.padn; rfl
        have hpl : A.padn nn < 512 := by unfold A.padn; omega
        repeat' (first | (refine pA_gtr_s ?_ ?_ <;> intro hc <;> try (exfalso; omega)) | (refine pA_neq_s ?_ ?_ <;> intro hc <;> try (exfalso; first | omega | exact hc rfl | exact hc (by assumption) | exact absurd hc (by assumption))) | refine gA_go (by rfl) ?_ | refine gA_no (by rfl) ?_ | refine pL_l hS (by first | rfl | assumption) ?_ | refine ⟨trivial, ?_⟩ | refine pA_via (by (intro K; simp (disch := omega) only [go_sem, pN_min, pN_max, w_u32, w_u64, Option.isNone_some, Option.isNone_none]; (try simp only [wrap_u32, wrap_u64]); rfl)) ?_ | fail)
        all_goals
          have hS : Sat E w (headP hd y nn :: rows cdF sf flds :: rows cd_uint8 s2 (A.sumField l) :: cel x2 ⟨24, T_api_Item.zero.enc⟩ :: M) := by rw [hy]; exact hS
          refine pA_slhw (C := cd_uint8) (s := s) (l := l) hS 512 rfl rfl (by omega) ?_
          intro hp
          repeat' (first | (refine pc_tar_header (header_ok hf (by omega) k0 k2 hS ?_); clear hS; intro s3 w hS) | refine pGd_go (by rfl) ?_ | refine ⟨trivial, ?_⟩ | fail)
          refine pc_bytes_Equal (Equal_n hhl.symm hlt.symm hS inferInstance inferInstance ?_)
          by_cases hh : A.header y nn = l.take 512
          · rw [decide_eq_true hh]
            rw [A.getE2, if_neg (fun h => h.elim (fun h => h h0) fun h => h.elim (fun h => by rw [hk] at h; omega) fun h => h hh), Int.toNat_natCast] at he
            unfold headP at hS
            by_cases htr : l.length < 512 + nn + A.padn nn
            · have hz2 : z = 1 := by rw [← he, if_pos htr]
              repeat' (first | (refine pc_tar_pad (pad_ok nn (by omega) ?_); rw [hpe]) | (refine pN_gtr_s ?_ ?_ <;> intro hc <;> try (exfalso; omega)) | refine pIf_t ?_ | refine pIf_f ?_ | refine gA_go (by rfl) ?_ | refine pL_l hS (by first | rfl | assumption) ?_ | refine pL_ra hS (by rfl) ?_ | (refine pN_sa hS (by rfl) (by rfl) (by rfl) ?_; clear hS; intro w hS; try dsimp only at hS) | (refine pDr_go hS ?_; clear hS; intro w hS) | refine ⟨trivial, ?_⟩ | refine ⟨⟨(by first | exact run_l hS (by first | rfl | assumption) | exact run_st hS (by first | rfl | omega) | exact run_ld1 ha hS | exact fun _ => run_l hS (by rfl) | exact fun _ => run_st hS (by first | rfl | omega) | exact fun _ => run_ld1 ha hS | exact fun h => Bool.noConfusion h), trivial⟩, ?_⟩ | refine pN_via (by (intro K; simp (disch := omega) only [go_sem, pN_min, pN_max, w_u32, w_u64, Option.isNone_some, Option.isNone_none]; (try simp only [wrap_u32, wrap_u64]); rfl)) ?_ | refine pA_via (by (intro K; simp (disch := omega) only [go_sem, pN_min, pN_max, w_u32, w_u64, Option.isNone_some, Option.isNone_none]; (try simp only [wrap_u32, wrap_u64]); rfl)) ?_ | fail)
              all_goals (rw [hz2] at hno; exact hno (by decide) _ hS.to)
            · rw [if_neg htr] at he
              repeat' (first | (refine pc_tar_pad (pad_ok nn (by omega) ?_); rw [hpe]) | (refine pN_gtr_s ?_ ?_ <;> intro hc <;> try (exfalso; omega)) | refine pIf_f ?_ | refine gA_go (by rfl) ?_ | refine pN_l hS (by first | rfl | assumption) ?_ | refine pL_l hS (by first | rfl | assumption) ?_ | (refine pDr_go hS ?_; clear hS; intro w hS) | refine ⟨trivial, ?_⟩ | refine ⟨⟨(by first | exact run_l hS (by first | rfl | assumption) | exact run_st hS (by first | rfl | omega) | exact run_ld1 ha hS | exact fun _ => run_l hS (by rfl) | exact fun _ => run_st hS (by first | rfl | omega) | exact fun _ => run_ld1 ha hS | exact fun h => Bool.noConfusion h), trivial⟩, ?_⟩ | refine pN_via (by (intro K; simp (disch := omega) only [go_sem, pN_min, pN_max, w_u32, w_u64, Option.isNone_some, Option.isNone_none]; (try simp only [wrap_u32, wrap_u64]); rfl)) ?_ | refine pA_via (by (intro K; simp (disch := omega) only [go_sem, pN_min, pN_max, w_u32, w_u64, Option.isNone_some, Option.isNone_none]; (try simp only [wrap_u32, wrap_u64]); rfl)) ?_ | fail)
              refine pN_sl2w (C := cd_uint8) (s := s) (l := l) hS (512 + nn) (512 + nn + A.padn nn) (by omega) (by omega) rfl (by omega) (by omega) ?_
              intro hp1
              refine pc_tar_zero (zero_n (by rw [List.length_take, List.length_drop]; omega) hS hp1 ?_)
              by_cases hzz : A.Zs ((l.drop (512 + nn)).take (512 + nn + A.padn nn - (512 + nn)))
              · rw [decide_eq_true hzz]
                rw [if_pos hzz] at he
                repeat' (first | refine pIf_f ?_ | refine pN_l hS (by first | rfl | assumption) ?_ | refine pN_via (by (intro K; simp (disch := omega) only [go_sem, pN_min, pN_max, w_u32, w_u64, Option.isNone_some, Option.isNone_none]; (try simp only [wrap_u32, wrap_u64]); rfl)) ?_ | fail)
                refine pN_sl2w (C := cd_uint8) (s := s) (l := l) hS 512 (512 + nn) (by omega) (by omega) rfl (by omega) (by omega) ?_
                intro hp2
                have hgl : 512 + nn - 512 = ((l.drop 512).take (512 + nn - 512)).length := by rw [List.length_take, List.length_drop]; omega
                generalize (l.drop 512).take (512 + nn - 512) = dl at *
                rw [hgl]
                have hdb : dl.length ≤ 140737488355328 := by omega
                refine pN_app0 (C := cd_uint8) hS rfl (by omega) fun s4 w hS => ?_
                repeat' (first | (refine pN_la_at hS (T_api_Item.enc ⟨y.Name, y.Link, y.Kind, y.Mode, y.Time, (s4, dl)⟩) rfl rfl ?_) | refine pL_ra hS (by rfl) ?_ | (refine pN_s hS (by first | exact Nat.le_of_ble_eq_true rfl | assumption) (by rfl) ?_; clear hS; intro w hS; try simp only [List.set_cons_zero, List.set_cons_succ] at hS) | (refine pN_sa hS (by rfl) (by rfl) (by rfl) ?_; clear hS; intro w hS; try dsimp only at hS) | refine pN_via (by (intro K; simp (disch := omega) only [go_sem, pN_min, pN_max, w_u32, w_u64, Option.isNone_some, Option.isNone_none]; (try simp only [wrap_u32, wrap_u64]); rfl)) ?_ | fail)
                have e : ((512 + nn + A.padn nn : Nat) : Int) = (nn : Int) + A.padn nn + 512 := by omega
                rw [e] at hok
                subst hy
                exact hok he.symm s4 _ hS.to
              · rw [decide_eq_false hzz]
                rw [if_neg hzz] at he
                repeat' (first | refine pIf_t ?_ | refine pL_ra hS (by rfl) ?_ | (refine pN_sa hS (by rfl) (by rfl) (by rfl) ?_; clear hS; intro w hS; try dsimp only at hS) | refine pN_via (by (intro K; simp (disch := omega) only [go_sem, pN_min, pN_max, w_u32, w_u64, Option.isNone_some, Option.isNone_none]; (try simp only [wrap_u32, wrap_u64]); rfl)) ?_ | fail)
                rw [← he] at hno
                exact hno (by decide) _ hS.to
          · rw [decide_eq_false hh]
            have hz2 : z = 2 := by rw [← he, A.getE2, if_pos (.inr (.inr hh))]
            repeat' (first | refine pIf_t ?_ | refine gA_go (by rfl) ?_ | refine pL_ra hS (by rfl) ?_ | (refine pN_sa hS (by rfl) (by rfl) (by rfl) ?_; clear hS; intro w hS; try dsimp only at hS) | refine ⟨trivial, ?_⟩ | refine pN_via (by (intro K; simp (disch := omega) only [go_sem, pN_min, pN_max, w_u32, w_u64, Option.isNone_some, Option.isNone_none]; (try simp only [wrap_u32, wrap_u64]); rfl)) ?_ | refine pA_via (by (intro K; simp (disch := omega) only [go_sem, pN_min, pN_max, w_u32, w_u64, Option.isNone_some, Option.isNone_none]; (try simp only [wrap_u32, wrap_u64]); rfl)) ?_ | fail)
            rw [hz2] at hno
            exact hno (by decide) _ hS.to
    · have hz2 : z = 2 := by rw [← he, A.getE2, if_pos (.inl h0)]
      repeat' (first | (refine pA_neq_s ?_ ?_ <;> intro hc <;> try (exfalso; first | omega | exact hc rfl | exact hc (by assumption) | exact absurd hc (by assumption))) | refine pIf_t ?_ | refine gA_no (by rfl) ?_ | refine pGd_no (by rfl) ?_ | refine pL_ra hS (by rfl) ?_ | (refine pN_sa hS (by rfl) (by rfl) (by rfl) ?_; clear hS; intro w hS; try dsimp only at hS) | refine ⟨trivial, ?_⟩ | refine pN_via (by (intro K; simp (disch := omega) only [go_sem, pN_min, pN_max, w_u32, w_u64, Option.isNone_some, Option.isNone_none]; (try simp only [wrap_u32, wrap_u64]); rfl)) ?_ | refine pA_via (by (intro K; simp (disch := omega) only [go_sem, pN_min, pN_max, w_u32, w_u64, Option.isNone_some, Option.isNone_none]; (try simp only [wrap_u32, wrap_u64]); rfl)) ?_ | fail)
      rw [hz2] at hno
      exact hno (by decide) _ hS.to
end

end Go.Proofs.YteeepkimnpabiaaDoor

namespace Go.Proofs.YteeepkimnpabiaaDoor
open Go
set_option linter.unusedSimpArgs false
set_option linter.unnecessarySimpa false
set_option linter.unusedSectionVars false
set_option linter.unusedVariables false

/-- No bound; the frames' rounds as said. -/
abbrev Fr (r : Option Nat) : Fence := { Fence.wide with round := r }
theorem Fr.all (r : Option Nat) (f : FuncId) : (Fr r).fn f := trivial
theorem Fr.room (r : Option Nat) (n : Nat) : (Fr r).room n := fun _ h => by cases h
theorem Fr.deep (r : Option Nat) (n : Nat) : (Fr r).depth.isSome = true → 1 ≤ n := fun h => by cases h
theorem Fr.calls {r : Option Nat} {n : Nat} {P : Program} {f : FuncId} {args : Array Value} {w : World} {R : Ending → World → Prop} (h : Calls P f args w R) : CallsIn (Fr r) n P f args w R := (callsIn_wide (n := n)).2 h

def notDf (o : Oper) : Bool := match o.op with
  | .defer _ => false
  | _ => true
theorem notDf_sem {o : Oper} (h : notDf o = true) (r : Option Nat) (ρ : Operand → Value) : Oper.semAt r ρ o = execOp ρ o :=
  Oper.semAt_eq r ρ o fun c hc => by simp [notDf, hc] at h

/-- A round that is asked for. -/
def rY [Pan] (P : Program) (r : Result Next) (K : Value → World → Prop) : Prop :=
  match r with
  | .ok (.round l f tmps assign body) w' => RoundIn (Fr none) 0 P l f tmps assign body w' (retP K)
  | r => rN P r K
/-- An operation that may be a call of yield. -/
def pY [Pan] (P : Program) (m : Sem Next) (w : World) (K : Value → World → Prop) : Prop := rY P (m.run P w) K
theorem pY_of [Pan] {P : Program} {m : Sem Next} {w : World} {K : Value → World → Prop} (h : pN P m w K) : pY P m w K := by
  unfold pN at h
  unfold pY rY
  split
  · rename_i hr; rw [hr] at h; exact h.elim
  · exact h

def mayY : Op → Bool
  | .call { callee := .value (.tmp _), .. } => true
  | _ => false
def pX [Pan] (P : Program) (op : Op) (m : Sem Next) (w : World) (K : Value → World → Prop) : Prop :=
  match mayY op with
  | true => pY P m w K
  | false => pN P m w K
theorem pX_up [Pan] {P : Program} {op : Op} {m : Sem Next} {w : World} {K : Value → World → Prop} (h : pX P op m w K) : pY P m w K := by
  unfold pX at h
  split at h
  · exact h
  · exact pY_of h

def opR [Pan] (P : Program) (ops : Array Oper) (o : Oper) (ρ : Env) (w : World) (K : Value → World → Prop) : Prop :=
  match o.guard with
  | none => match o.op with
    | .move x => K (ev ρ x) w
    | .assign x => K (ev ρ x) w
    | op => pX P op (execE ρ o) w K
  | some (j, want) => pGd (wantE ops ρ j want) (pX P o.op (execE ρ o) w) w K

def rgR [Pan] (P : Program) (ops : Array Oper) : List Oper → Env → World → (Env → World → Prop) → Prop
  | [], ρ, w, K => K ρ w
  | o :: rest, ρ, w, K => opR P ops o ρ w fun v w' => rgR P ops rest (ρ.put o.dst v) w' K

def dwR [Pan] (P : Program) (ops : Array Oper) : Nat → Array Bool → Held → Env → World → (Env → World → Prop) → Prop
  | 0, L, _, ρ, w, K => match Region.ready .any ops L with
    | [] => K ρ w
    | _ => False
  | f + 1, L, h, ρ, w, K =>
    match pickFirst ops (Region.ready .any ops L) with
    | some i => match ops[i]?, Region.free .any ops L i with
      | some o, true => takeW P o (guardB ops o ρ) ρ w fun v => dwR P ops f (L.setIfInBounds i true) (holdsH i o (guardB ops o ρ) ρ v h) (ρ.put o.dst v) w K
      | _, _ => False
    | none => match Region.ready .any ops L with
      | [] => K ρ w
      | js => allL js fun j => match ops[j]? with
        | some o => opR P ops o ρ w fun v w' => heldOk P ops j w' h ∧ dwR P ops f (L.setIfInBounds j true) (dropH ops j h) (ρ.put o.dst v) w' K
        | none => False

def dwSR [Pan] (P : Program) (ops : Array Oper) (l : List Oper) : Scr → Held → Env → World → (Env → World → Prop) → Prop
  | [], _, ρ, w, K => K ρ w
  | (i, _) :: r, h, ρ, w, K => match nthO l i with
    | some o => match Nat.blt (kindOf o.op) 2 with
      | true => takeW P o (guardB ops o ρ) ρ w fun v => dwSR P ops l r (holdsH i o (guardB ops o ρ) ρ v h) (ρ.put o.dst v) w K
      | false => opR P ops o ρ w fun v w' => heldOk P ops i w' h ∧ dwSR P ops l r (dropH ops i h) (ρ.put o.dst v) w' K
    | none => False

/-! ### Regions serve -/
section
variable [Pan] {P : Program} {n : Frm} {r : Option Nat}

theorem pY_wp {a : Act} {ρ : Env} (hf : Fits n a ρ) {o : Oper} (hd : notDf o = true) {w : World} {K : Value → World → Prop} {next : Act → World → Prop} {Q : Exit → Act → World → Prop}
    (hQ : ∀ c w, PZ n a c w → Q (.panic c) a w) (h : pY P (execE ρ o) w K) (hK : ∀ v w', K v w' → next (a.put o.dst v) w') : o.wpIn (Fr r) 0 P a w next Q := by
  refine ⟨fun _ _ => trivial, ?_⟩
  rw [notDf_sem hd, hf.eval]
  rw [execE_eq] at h
  unfold pY rY at h
  have hret : ∀ (e : Ending) (w'' : World), retP K e w'' → (match (motive := Ending → World → Prop) e, w'' with
      | .returned v, w'' => next (a.put o.dst v) w''
      | .panicked chain, w'' => Q (.panic chain) a w''
      | .outgrown, _ => LetsOut Q) := by
    intro e w'' he
    cases e with
    | returned v => exact hK _ _ he
    | panicked c => exact hQ _ _ (hf.pz he)
    | outgrown => exact he.elim
  split at h
  · rename_i l f tmps assign body w' hr
    rw [hr]
    exact ⟨Fr.deep _ _, RoundIn.mono h hret⟩
  · unfold rN at h
    split at h
    · rename_i v w' hr; rw [hr]; exact hK _ _ h
    · rename_i w' hr; rw [hr]; exact hK _ _ h
    · rename_i f args w' hr
      rw [hr]
      exact ⟨Fr.deep _ _, Fr.calls (Calls.mono h hret)⟩
    · rename_i v w' hr; rw [hr]; exact hQ _ _ (hf.pz h)
    · exact h.elim

theorem opR_none {ops : Array Oper} {o : Oper} {ρ : Env} {w : World} {K : Value → World → Prop} (hg : o.guard = none) (h : opR P ops o ρ w K) : pY P (execE ρ o) w K := by
  unfold opR at h
  rw [hg] at h
  dsimp only at h
  split at h
  · rename_i x hx; unfold execE; rw [hx]; exact h
  · rename_i x hx; unfold execE; rw [hx]; exact h
  · exact pX_up h

theorem rgR_wp {ops : Array Oper} (l : List Oper) : ∀ {a : Act} {ρ : Env} {w : World} {K : Env → World → Prop} {Q : Exit → Act → World → Prop},
    (∀ c a w, PZ n a c w → Q (.panic c) a w) → (∀ o ∈ l, notDf o = true) → (∀ t ∈ opWrites l, n.lo ≤ t ∧ t < n.n) → Fits n a ρ → rgR P ops l ρ w K →
    (∀ a' ρ' w', (∀ t, t ∉ opWrites l → a'.tmps.getD t undef = a.tmps.getD t undef) → Fits n a' ρ' → K ρ' w' → Q .normal a' w') →
    wpListIn (Fr r) 0 P ops Q l a w := by
  induction l with
  | nil =>
    intro a ρ w K Q hQ hnd hw hf h hK
    exact hK a ρ w (fun _ _ => rfl) hf h
  | cons o rest ih =>
    intro a ρ w K Q hQ hnd hw hf h hK
    have hd : ∀ t, o.dst = some t → n.lo ≤ t ∧ t < n.n := fun t ht => hw t (by simp [opWrites, ht])
    have ho := hnd o List.mem_cons_self
    have hrest : ∀ t ∈ opWrites rest, n.lo ≤ t ∧ t < n.n := fun t ht => hw t (by
      simp only [opWrites]; split
      · exact List.mem_cons_of_mem _ ht
      · exact ht)
    have hgo : ∀ v w', rgR P ops rest (ρ.put o.dst v) w' K → wpListIn (Fr r) 0 P ops Q rest (a.put o.dst v) w' := by
      intro v w' hr
      refine ih hQ (fun o h => hnd o (List.mem_cons_of_mem _ h)) hrest (hf.put hd v) hr fun a' ρ' w'' hk hf' hK' => hK a' ρ' w'' (fun t ht => ?_) hf' hK'
      have ht' : t ∉ opWrites rest := fun hm => ht (by
        simp only [opWrites]; split
        · exact List.mem_cons_of_mem _ hm
        · exact hm)
      rw [hk t ht']
      cases hdst : o.dst with
      | none => rfl
      | some d =>
        have hne : d ≠ t := fun e => ht (by simp [opWrites, hdst, e])
        simp only [Act.put, Array.getD_eq_getD_getElem?, Array.getElem?_setIfInBounds]
        rw [if_neg hne]
    simp only [rgR] at h
    cases hg : o.guard with
    | none =>
      exact wpListIn_plain hg fun K' hK' => pY_wp hf ho (fun c w h => hQ c a w h) (opR_none hg h) fun v w' hr => hK' _ _ (hgo v w' hr)
    | some g =>
      obtain ⟨j, want⟩ := g
      simp only [opR, hg] at h
      refine wpListIn_step fun K' hK' => ?_
      simp only [Region.wanted, hg, hf.yielded ops]
      simp only [pGd] at h
      split
      · rename_i hy
        rw [if_pos hy] at h
        exact pY_wp hf ho (fun c w h => hQ c a w h) (pX_up h) fun v w' hr => hK' _ _ (hgo v w' hr)
      · rename_i hy
        rw [if_neg hy] at h
        exact ⟨fun _ _ => trivial, hK' _ _ (hgo _ _ h)⟩
end

section
variable {P : Program} {ops : Array Oper} {Q : Exit → Act → World → Prop} {r : Option Nat}

theorem YieldsW.wpOpI {i : Nat} {o : Oper} {v : Value} {a : Act} {w : World} (hi : ops[i]? = some o) (hd : notDf o = true) (hy : YieldsW P ops o v a w)
    {K : Act → World → Prop} (h : K (a.put o.dst v) w) : wpOpIn (Fr r) 0 P ops Q i K a w := by
  unfold Go.wpOpIn
  simp only [hi]
  rcases hy with ⟨hw, hv⟩ | ⟨hw, rfl⟩
  · rw [if_pos hw]
    refine ⟨fun _ _ => trivial, ?_⟩
    rw [notDf_sem hd, hv]
    exact h
  · rw [if_neg (by simp [hw])]
    exact ⟨fun _ _ => trivial, h⟩

theorem wpOpI_putW {j : Nat} {oi oj : Oper} {v : Value} (φ : World → Prop) (hj : ops[j]? = some oj) (hdj : notDf oj = true) (hap : oi.apart ops oj = true)
    (hsi : ∀ cs b, oi.op ≠ .select cs b) (hsj : ∀ cs b, oj.op ≠ .select cs b)
    (hQ : ∀ c a w, Q (.panic c) (a.put oi.dst v) w → Q (.panic c) a w) (hL : ¬ LetsOut Q) {K : Act → World → Prop} {a : Act} {w : World}
    (hy : ∀ w, φ w → YieldsW P ops oi v a w) (h : wpOpIn (Fr r) 0 P ops Q j K (a.put oi.dst v) w) :
    wpOpIn (Fr r) 0 P ops Q j (fun a' w' => (∀ w, φ w → YieldsW P ops oi v a' w) ∧ K (a'.put oi.dst v) w') a w := by
  obtain ⟨h1, h2, h3⟩ := Oper.apart_spec hap
  have keep : ∀ (a : Act), (∀ w, φ w → YieldsW P ops oi v a w) → ∀ u, (∀ w, φ w → YieldsW P ops oi v (a.put oj.dst u) w) := fun a hy u w hw =>
    (hy w hw).of_same (execOp_put oi hsi a oj.dst u h3) (wanted_put oi a oj.dst u h3)
  have keepD : ∀ d, (∀ w, φ w → YieldsW P ops oi v { a with defers := d :: a.defers } w) := fun d w hw => (hy w hw).of_same rfl rfl
  unfold Go.wpOpIn at *
  simp only [hj] at *
  rw [wanted_put oj a oi.dst v h1] at h
  split
  · rename_i hw
    simp only [hw, if_true] at h
    refine ⟨fun _ _ => trivial, ?_⟩
    have h := h.2
    rw [notDf_sem hdj, execOp_put oj hsj a oi.dst v h1] at h
    rw [notDf_sem hdj]
    generalize (execOp a.eval oj).run P w = r at *
    cases r with
    | ok n w' =>
      cases n <;> simp only [Oper.uponIn] at h ⊢
      case value u => exact ⟨keep a hy u, by rw [← Act.put_comm a v u h2]; exact h⟩
      case skip => exact ⟨keep a hy _, by rw [← Act.put_comm a v undef h2]; exact h⟩
      case defer d =>
        refine ⟨keep _ (keepD d) _, ?_⟩
        rw [← Act.put_comm _ v undef h2, ← Act.put_defers]
        exact h
      case enter f args =>
        refine ⟨h.1, CallsIn.mono h.2 fun e w'' he => ?_⟩
        cases e with
        | returned u => exact ⟨keep a hy u, by rw [← Act.put_comm a v u h2]; exact he⟩
        | panicked c => exact hQ _ _ _ he
        | outgrown => exact he
      case row row args => exact ⟨h.1, RowsIn.mono h.2 fun u w'' he => ⟨keep a hy u, by rw [← Act.put_comm a v u h2]; exact he⟩⟩
      case round l f tmps assign body =>
        refine ⟨h.1, RoundIn.mono h.2 fun e w'' he => ?_⟩
        cases e with
        | returned u => exact ⟨keep a hy u, by rw [← Act.put_comm a v u h2]; exact he⟩
        | panicked c => exact hQ _ _ _ he
        | outgrown => exact he
    | halt x w' =>
      cases x <;> simp only [Oper.uponIn] at h ⊢
      case panic u => exact hQ _ _ _ h
  · rename_i hw
    simp only [hw] at h
    exact ⟨fun _ _ => trivial, keep a hy _, by rw [← Act.put_comm a v undef h2]; exact h.2⟩

def wpAnyTI (r : Option Nat) (P : Program) (ops : Array Oper) (Q : Exit → Act → World → Prop) : Nat → Array Bool → Trk → Act → World → Prop
  | 0, listed, _, a, w => Region.ready .any ops listed = [] ∧ Q .normal a w
  | fuel + 1, listed, trk, a, w =>
    (Region.ready .any ops listed = [] → Q .normal a w) ∧
    ∀ i ∈ Region.ready .any ops listed, wpOpIn (Fr r) 0 P ops Q i (fun a' w' => (∀ p ∈ dropT ops i trk, p.2 w') ∧ wpAnyTI r P ops Q fuel (listed.setIfInBounds i true) (dropT ops i trk) a' w') a w

theorem wpAnyIn_of_T : ∀ (fuel : Nat) (listed : Array Bool) (trk : Trk) (a : Act) (w : World), wpAnyTI r P ops Q fuel listed trk a w → wpAnyIn (Fr r) 0 P .any ops Q fuel listed a w
  | 0, _, _, _, _, h => h
  | fuel + 1, _, _, _, _, h => ⟨h.1, fun i hi => wpOpIn_mono (fun a' w' h' => wpAnyIn_of_T fuel _ _ a' w' h'.2) (h.2 i hi)⟩

theorem wpAnyTI_less : ∀ (fuel : Nat) (listed : Array Bool) (trk trk' : Trk) (a : Act) (w : World), (∀ p ∈ trk', p ∈ trk) → wpAnyTI r P ops Q fuel listed trk a w → wpAnyTI r P ops Q fuel listed trk' a w
  | 0, _, _, _, _, _, _, h => h
  | fuel + 1, _, trk, trk', _, _, hs, h => ⟨h.1, fun i hi => wpOpIn_mono (fun a' w' h' => by
      have hs' : ∀ p ∈ dropT ops i trk', p ∈ dropT ops i trk := fun p hp => by
        simp only [dropT, List.mem_filter] at hp ⊢
        exact ⟨hs p hp.1, hp.2⟩
      exact ⟨fun p hp => h'.1 p (hs' p hp), wpAnyTI_less fuel _ _ _ a' w' hs' h'.2⟩) (h.2 i hi)⟩

theorem wpAnyTI_first {i : Nat} {oi : Oper} {v : Value} {φ : World → Prop} (hi : ops[i]? = some oi) (hdi : notDf oi = true) (hnd : ∀ (j : Nat) (o : Oper), ops[j]? = some o → notDf o = true) (hsel : ∀ (j : Nat) (o : Oper) cs b, ops[j]? = some o → o.op ≠ .select cs b)
    (hQ : ∀ c a w, Q (.panic c) (a.put oi.dst v) w → Q (.panic c) a w) (hL : ¬ LetsOut Q) :
    ∀ (fuel : Nat) (listed : Array Bool) (trk : Trk) (a : Act) (w : World), Clo ops listed →
      (∀ j oj, ops[j]? = some oj → j ≠ i → listed.getD j true = false → (∀ e ∈ oj.after, Region.binds .any e = true → e.on ≠ i) → oi.apart ops oj = true) →
      i ∈ Region.ready .any ops listed → (∀ w, φ w → YieldsW P ops oi v a w) → φ w → (∀ p ∈ trk, p.2 w) →
      wpAnyTI r P ops Q fuel (listed.setIfInBounds i true) ((i, φ) :: trk) (a.put oi.dst v) w → wpAnyTI r P ops Q (fuel + 1) listed trk a w := by
  intro fuel
  induction fuel with
  | zero =>
    intro listed trk a w _ _ hr hy hφ ht H
    refine ⟨fun h => (by rw [h] at hr; cases hr), fun j hj => ?_⟩
    by_cases hji : j = i
    · subst hji
      exact (hy w hφ).wpOpI hi hdi ⟨fun p hp => ht p (by simp only [dropT, List.mem_filter] at hp; exact hp.1), H⟩
    · have := ready_mono hj hji
      rw [H.1] at this
      cases this
  | succ fuel ih =>
    intro listed trk a w hcl hfree hr hy hφ ht H
    refine ⟨fun h => (by rw [h] at hr; cases hr), fun j hj => ?_⟩
    by_cases hji : j = i
    · subst hji
      refine (hy w hφ).wpOpI hi hdi ⟨fun p hp => ht p (by simp only [dropT, List.mem_filter] at hp; exact hp.1), wpAnyTI_less _ _ _ _ _ _ (fun p hp => ?_) H⟩
      simp only [dropT, List.mem_filter] at hp
      exact List.mem_cons_of_mem _ hp.1
    · have h1 := H.2 j (ready_mono hj hji)
      obtain ⟨hjun, oj, hoj, hall⟩ := mem_ready.1 hj
      have hiun := (mem_ready.1 hr).1
      have hnl : listed.getD i false ≠ true := fun hl => by
        rcases Nat.lt_or_ge i listed.size with h' | h'
        · simp [h'] at hiun hl; rw [hiun] at hl; cases hl
        · simp [Array.getElem?_eq_none h'] at hl
      have hnot : ∀ e ∈ oj.after, Region.binds .any e = true → e.on ≠ i := fun e he hb heq => hnl (heq ▸ hall e he hb)
      have hnb : bfB ops ops.size i j = false := by
        cases hb : bfB ops ops.size i j with
        | false => rfl
        | true => exact absurd (hcl.bf _ _ _ hb ⟨oj, hoj, hall⟩) hnl
      have hdrop : dropT ops j ((i, φ) :: trk) = (i, φ) :: dropT ops j trk := by
        simp [dropT, hnb]
      have h2 := wpOpI_putW φ hoj (hnd j oj hoj) (hfree j oj hoj hji hjun hnot) (fun cs b => hsel i oi cs b hi) (fun cs b => hsel j oj cs b hoj) hQ hL hy h1
      have hfree' : ∀ k ok, ops[k]? = some ok → k ≠ i → (listed.setIfInBounds j true).getD k true = false →
          (∀ e ∈ ok.after, Region.binds .any e = true → e.on ≠ i) → oi.apart ops ok = true := fun k ok hk hki hun hno => by
        refine hfree k ok hk hki ?_ hno
        by_cases hjk : j = k
        · subst hjk; exact hjun
        · rw [getD_set_ne true hjk] at hun; exact hun
      refine wpOpIn_mono (fun a' w' h3 => ?_) h2
      obtain ⟨hy', hobl, H'⟩ := h3
      rw [hdrop] at hobl H'
      refine ⟨fun p hp => hobl p (List.mem_cons_of_mem _ hp), ih (listed.setIfInBounds j true) _ a' w' (hcl.add hj) hfree' (ready_mono hr (Ne.symm hji)) hy' (hobl (i, φ) List.mem_cons_self) (fun p hp => hobl p (List.mem_cons_of_mem _ hp)) ?_⟩
      rw [Array.setIfInBounds_comm _ _ hji]
      exact H'

theorem wpAnyTI_top {i : Nat} {f : Nat} {L : Array Bool} {trk : Trk} {a : Act} {w : World} (H : wpAnyTI r P ops Q f L trk a w) : wpAnyTI r P ops Q f L ((i, fun _ => True) :: trk) a w := by
  have gen : ∀ (f : Nat) (L : Array Bool) (trk trk' : Trk) (a : Act) (w : World), (∀ p ∈ trk', p ∈ trk ∨ ∀ w, p.2 w) → wpAnyTI r P ops Q f L trk a w → wpAnyTI r P ops Q f L trk' a w := by
    intro f
    induction f with
    | zero => intro L trk trk' a w _ h; exact h
    | succ f ih =>
      intro L trk trk' a w hs h
      refine ⟨h.1, fun i hi => wpOpIn_mono (fun a' w' h' => ?_) (h.2 i hi)⟩
      have hs' : ∀ p ∈ dropT ops i trk', p ∈ dropT ops i trk ∨ ∀ w, p.2 w := fun p hp => by
        simp only [dropT, List.mem_filter] at hp ⊢
        rcases hs p hp.1 with h | h
        · exact .inl ⟨h, hp.2⟩
        · exact .inr h
      exact ⟨fun p hp => (hs' p hp).elim (h'.1 p) (fun h => h w'), ih _ _ _ a' w' hs' h'.2⟩
  refine gen f L trk _ a w (fun p hp => ?_) H
  rcases List.mem_cons.1 hp with rfl | hp
  · exact .inr fun _ => trivial
  · exact .inl hp
end

section
variable {P : Program} {ops : Array Oper} {rd : Option Nat}

theorem dwR_any [Pan] {n : Frm} (hs : Region.noSelect ops = true) (hnd : ∀ (j : Nat) (o : Oper), ops[j]? = some o → notDf o = true) (hn : ∀ t ∈ opWrites ops.toList, n.lo ≤ t ∧ t < n.n) {Q : Exit → Act → World → Prop} (hQ : ∀ c a w, Q (.panic c) a w ↔ PZ n a c w) (hL : ¬ LetsOut Q) (a₀ : Act) {K : Env → World → Prop}
    (hK : ∀ a' ρ' w', (∀ t, t ∉ opWrites ops.toList → a'.tmps.getD t undef = a₀.tmps.getD t undef) → Fits n a' ρ' → K ρ' w' → Q .normal a' w') :
    ∀ (f : Nat) (L : Array Bool) (h : Held) (ρ : Env) (a : Act) (w : World), Clo ops L → Fits n a ρ → (∀ t, t ∉ opWrites ops.toList → a.tmps.getD t undef = a₀.tmps.getD t undef) →
      (∀ p ∈ trkOf P h, p.2 w) → dwR P ops f L h ρ w K → wpAnyTI rd P ops Q f L (trkOf P h) a w := by
  have hput : ∀ {a : Act} {j : Nat} {o : Oper} (v : Value), ops[j]? = some o → (∀ t, t ∉ opWrites ops.toList → a.tmps.getD t undef = a₀.tmps.getD t undef) →
      (∀ t, t ∉ opWrites ops.toList → (a.put o.dst v).tmps.getD t undef = a₀.tmps.getD t undef) := by
    intro a j o v hj hk t ht
    rw [← hk t ht]
    cases hd : o.dst with
    | none => rfl
    | some d =>
      have hne : d ≠ t := fun e => ht (e ▸ opWrites_mem hj hd)
      simp only [Act.put, Array.getD_eq_getD_getElem?, Array.getElem?_setIfInBounds]
      rw [if_neg hne]
  have hdst : ∀ {j : Nat} {o : Oper}, ops[j]? = some o → ∀ t, o.dst = some t → n.lo ≤ t ∧ t < n.n := fun hj t ht => hn t (opWrites_mem hj ht)
  intro f
  induction f with
  | zero =>
    intro L h ρ a w _ hf hk _ hd
    simp only [dwR] at hd
    split at hd
    · rename_i hr; exact ⟨hr, hK a ρ w hk hf hd⟩
    · exact hd.elim
  | succ f ih =>
    intro L h ρ a w hcl hf hk ht hd
    simp only [dwR] at hd
    split at hd
    · rename_i i hpick
      have hmem := pickFirst_mem hpick
      split at hd
      · rename_i o hi hfree
        obtain ⟨v, hKv, hy⟩ := takeW_yields (ops := ops) hf hd
        have hf' : Fits n (a.put o.dst v) (ρ.put o.dst v) := hf.put (hdst hi) v
        rcases hy with ⟨hkind, hy⟩ | ⟨hkind, hy, hnow⟩
        · simp only [holdsH, hkind] at hKv
          have H := ih _ _ _ _ _ (hcl.add hmem) hf' (hput v hi hk) ht hKv
          refine wpAnyTI_first (φ := fun _ => True) hi (hnd _ _ hi) hnd (Region.noSelect_spec hs) (fun c a w h => (hQ _ _ _).2 (PZ.less (fun t ht => (hdst hi t ht).1) ((hQ _ _ _).1 h))) hL f L _ a w hcl (Region.free_spec hi hfree) hmem (fun w _ => hy w) trivial ht ?_
          exact wpAnyTI_top H
        · simp only [holdsH, hkind] at hKv
          have ht' : ∀ p ∈ trkOf P ((i, guardB ops o ρ, execE ρ o, v) :: h), p.2 w := by
            intro p hp
            rcases List.mem_cons.1 (show p ∈ (i, fun w => hkp (guardB ops o ρ) ((execE ρ o).run P w = .ok (.value v) w)) :: trkOf P h from hp) with rfl | hp
            · exact hnow
            · exact ht p hp
          have H := ih _ _ _ _ _ (hcl.add hmem) hf' (hput v hi hk) ht' hKv
          exact wpAnyTI_first (φ := fun w => hkp (guardB ops o ρ) ((execE ρ o).run P w = .ok (.value v) w)) hi (hnd _ _ hi) hnd (Region.noSelect_spec hs) (fun c a w h => (hQ _ _ _).2 (PZ.less (fun t ht => (hdst hi t ht).1) ((hQ _ _ _).1 h))) hL f L _ a w hcl (Region.free_spec hi hfree) hmem hy hnow ht H
      · exact hd.elim
    · split at hd
      · rename_i hr
        refine ⟨fun _ => hK a ρ w hk hf hd, fun i hi => ?_⟩
        rw [hr] at hi; cases hi
      · rename_i js hne
        refine ⟨fun h0 => absurd h0 hne, fun j hj => ?_⟩
        have hdj := allL_mem hd j hj
        obtain ⟨_, o, hoj, _⟩ := mem_ready.1 hj
        simp only [hoj] at hdj
        have hgo : ∀ v w', (heldOk P ops j w' h ∧ dwR P ops f (L.setIfInBounds j true) (dropH ops j h) (ρ.put o.dst v) w' K) →
            (∀ p ∈ dropT ops j (trkOf P h), p.2 w') ∧ wpAnyTI rd P ops Q f (L.setIfInBounds j true) (dropT ops j (trkOf P h)) (a.put o.dst v) w' := by
          intro v w' ⟨hho, hdw⟩
          rw [trkOf_drop]
          have h1 := heldOk_all j w' h hho
          exact ⟨h1, ih _ _ _ _ _ (hcl.add hj) (hf.put (hdst hoj) v) (hput v hoj hk) h1 hdw⟩
        unfold Go.wpOpIn
        simp only [hoj]
        have hw := wanted_eq (ops := ops) hf o
        cases hg : o.guard with
        | none =>
          simp only [guardB, hg] at hw
          simp only [Option.getD_none] at hw
          rw [if_pos hw]
          exact pY_wp hf (hnd _ _ hoj) (fun c w h => (hQ _ _ _).2 h) (opR_none hg hdj) hgo
        | some g =>
          obtain ⟨k, want⟩ := g
          simp only [guardB, hg] at hw
          simp only [Option.getD_some] at hw
          simp only [opR, hg, pGd] at hdj
          rw [hw]
          split
          · rename_i hy
            rw [if_pos hy] at hdj
            exact pY_wp hf (hnd _ _ hoj) (fun c w h => (hQ _ _ _).2 h) (pX_up hdj) hgo
          · rename_i hy
            rw [if_neg hy] at hdj
            exact ⟨fun _ _ => trivial, hgo _ _ hdj⟩

theorem dwSR_any [Pan] {n : Frm} (hs : Region.noSelect ops = true) (hnd : ∀ (j : Nat) (o : Oper), ops[j]? = some o → notDf o = true) (hn : ∀ t ∈ opWrites ops.toList, n.lo ≤ t ∧ t < n.n) (hb : ∀ (j : Nat) (o : Oper), ops[j]? = some o → ∀ e ∈ o.after, Region.binds .any e = true → e.on < ops.size)
    {Q : Exit → Act → World → Prop} (hQ : ∀ c a w, Q (.panic c) a w ↔ PZ n a c w) (hL : ¬ LetsOut Q) (a₀ : Act) {K : Env → World → Prop}
    (hK : ∀ a' ρ' w', (∀ t, t ∉ opWrites ops.toList → a'.tmps.getD t undef = a₀.tmps.getD t undef) → Fits n a' ρ' → K ρ' w' → Q .normal a' w') :
    ∀ (s : Scr) (M : Nat) (L : Array Bool) (h : Held) (ρ : Env) (a : Act) (w : World), RelM ops.size M L → okS ops ops.toList ops.size s M = true → Clo ops L → Fits n a ρ → (∀ t, t ∉ opWrites ops.toList → a.tmps.getD t undef = a₀.tmps.getD t undef) →
      (∀ p ∈ trkOf P h, p.2 w) → dwSR P ops ops.toList s h ρ w K → wpAnyTI rd P ops Q s.length L (trkOf P h) a w := by
  have hput : ∀ {a : Act} {j : Nat} {o : Oper} (v : Value), ops[j]? = some o → (∀ t, t ∉ opWrites ops.toList → a.tmps.getD t undef = a₀.tmps.getD t undef) →
      (∀ t, t ∉ opWrites ops.toList → (a.put o.dst v).tmps.getD t undef = a₀.tmps.getD t undef) := by
    intro a j o v hj hk t ht
    rw [← hk t ht]
    cases hd : o.dst with
    | none => rfl
    | some d =>
      have hne : d ≠ t := fun e => ht (e ▸ opWrites_mem hj hd)
      simp only [Act.put, Array.getD_eq_getD_getElem?, Array.getElem?_setIfInBounds]
      rw [if_neg hne]
  have hdst : ∀ {j : Nat} {o : Oper}, ops[j]? = some o → ∀ t, o.dst = some t → n.lo ≤ t ∧ t < n.n := fun hj t ht => hn t (opWrites_mem hj ht)
  intro s
  induction s with
  | nil =>
    intro M L h ρ a w hrel hok _ hf hk _ hd
    refine ⟨?_, hK a ρ w hk hf hd⟩
    simp only [okS] at hok
    refine List.eq_nil_iff_forall_not_mem.2 fun j hj => ?_
    obtain ⟨h0, o, ho, _⟩ := mem_ready.1 hj
    have hlt := (Array.getElem?_eq_some_iff.1 ho).1
    rw [hrel.getD hlt true, belowB_spec hok j hlt] at h0
    cases h0
  | cons p r ih =>
    obtain ⟨i, M'⟩ := p
    intro M L h ρ a w hrel hok hcl hf hk ht hd
    simp only [okS, Bool.and_eq_true] at hok
    obtain ⟨⟨⟨hM, hrdy⟩, hcase⟩, hok'⟩ := hok
    have hM := Nat.eq_of_beq_eq_true hM
    subst hM
    simp only [dwSR] at hd
    rw [nthO_eq, Array.getElem?_toList] at hcase hd
    cases hi : ops[i]? with
    | none => rw [hi] at hcase; cases hcase
    | some o =>
      rw [hi] at hcase hd
      have hlt := (Array.getElem?_eq_some_iff.1 hi).1
      have hmem := (readyM_iff hrel hb i hlt).1 hrdy
      have hrel' := hrel.set i hlt
      cases hkd : Nat.blt (kindOf o.op) 2 with
      | true =>
        simp only [hkd] at hcase hd
        obtain ⟨v, hKv, hy⟩ := takeW_yields (ops := ops) hf hd
        have hf' : Fits n (a.put o.dst v) (ρ.put o.dst v) := hf.put (hdst hi) v
        have hfree : ∀ j oj, ops[j]? = some oj → j ≠ i → L.getD j true = false → (∀ e ∈ oj.after, Region.binds .any e = true → e.on ≠ i) → o.apart ops oj = true := by
          intro j oj hj hne hun hno
          have hjlt := (Array.getElem?_eq_some_iff.1 hj).1
          simp only [freeM, nthO_eq, Array.getElem?_toList, hi] at hcase
          have := belowB_spec hcase j hjlt
          simp only [hj, Bool.or_eq_true] at this
          rcases this with (h1 | h1) | h1 | h1
          · exact absurd (Nat.eq_of_beq_eq_true h1) hne
          · rw [hrel.getD hjlt true] at hun; rw [hun] at h1; cases h1
          · obtain ⟨e, he, hbe⟩ := List.any_eq_true.1 h1
            simp only [Bool.and_eq_true] at hbe
            exact absurd (Nat.eq_of_beq_eq_true hbe.2) (hno e (by simpa using he) hbe.1)
          · exact h1
        rcases hy with ⟨hkind, hy⟩ | ⟨hkind, hy, hnow⟩
        · simp only [holdsH, hkind] at hKv
          have H := ih _ _ _ _ _ _ hrel' hok' (hcl.add hmem) hf' (hput v hi hk) ht hKv
          refine wpAnyTI_first (φ := fun _ => True) hi (hnd _ _ hi) hnd (Region.noSelect_spec hs) (fun c a w h => (hQ _ _ _).2 (PZ.less (fun t ht => (hdst hi t ht).1) ((hQ _ _ _).1 h))) hL _ L _ a w hcl hfree hmem (fun w _ => hy w) trivial ht ?_
          exact wpAnyTI_top H
        · simp only [holdsH, hkind] at hKv
          have ht' : ∀ p ∈ trkOf P ((i, guardB ops o ρ, execE ρ o, v) :: h), p.2 w := by
            intro p hp
            rcases List.mem_cons.1 (show p ∈ (i, fun w => hkp (guardB ops o ρ) ((execE ρ o).run P w = .ok (.value v) w)) :: trkOf P h from hp) with rfl | hp
            · exact hnow
            · exact ht p hp
          have H := ih _ _ _ _ _ _ hrel' hok' (hcl.add hmem) hf' (hput v hi hk) ht' hKv
          exact wpAnyTI_first (φ := fun w => hkp (guardB ops o ρ) ((execE ρ o).run P w = .ok (.value v) w)) hi (hnd _ _ hi) hnd (Region.noSelect_spec hs) (fun c a w h => (hQ _ _ _).2 (PZ.less (fun t ht => (hdst hi t ht).1) ((hQ _ _ _).1 h))) hL _ L _ a w hcl hfree hmem hy hnow ht H
      | false =>
        simp only [hkd] at hcase hd
        refine ⟨fun h0 => (by rw [h0] at hmem; cases hmem), fun j hj => ?_⟩
        have hji : j = i := by
          obtain ⟨_, oj, hoj, _⟩ := mem_ready.1 hj
          have hjlt := (Array.getElem?_eq_some_iff.1 hoj).1
          have := belowB_spec hcase j hjlt
          simp only [Bool.or_eq_true, Bool.not_eq_true'] at this
          rcases this with h1 | h1
          · exact Nat.eq_of_beq_eq_true h1
          · rw [(readyM_iff hrel hb j hjlt).2 hj] at h1; cases h1
        subst hji
        have hgo : ∀ v w', (heldOk P ops j w' h ∧ dwSR P ops ops.toList r (dropH ops j h) (ρ.put o.dst v) w' K) →
            (∀ p ∈ dropT ops j (trkOf P h), p.2 w') ∧ wpAnyTI rd P ops Q r.length (L.setIfInBounds j true) (dropT ops j (trkOf P h)) (a.put o.dst v) w' := by
          intro v w' ⟨hho, hdw⟩
          rw [trkOf_drop]
          have h1 := heldOk_all j w' h hho
          exact ⟨h1, ih _ _ _ _ _ _ hrel' hok' (hcl.add hj) (hf.put (hdst hi) v) (hput v hi hk) h1 hdw⟩
        unfold Go.wpOpIn
        simp only [hi]
        have hw := wanted_eq (ops := ops) hf o
        cases hg : o.guard with
        | none =>
          simp only [guardB, hg] at hw
          simp only [Option.getD_none] at hw
          rw [if_pos hw]
          exact pY_wp hf (hnd _ _ hi) (fun c w h => (hQ _ _ _).2 h) (opR_none hg hd) hgo
        | some g =>
          obtain ⟨k, want⟩ := g
          simp only [guardB, hg] at hw
          simp only [Option.getD_some] at hw
          simp only [opR, hg, pGd] at hd
          rw [hw]
          split
          · rename_i hy
            rw [if_pos hy] at hd
            exact pY_wp hf (hnd _ _ hi) (fun c w h => (hQ _ _ _).2 h) (pX_up hd) hgo
          · rename_i hy
            rw [if_neg hy] at hd
            exact ⟨fun _ _ => trivial, hgo _ _ hd⟩
end

end Go.Proofs.YteeepkimnpabiaaDoor

namespace Go.Proofs.YteeepkimnpabiaaDoor
open Go
set_option linter.unusedSimpArgs false
set_option linter.unnecessarySimpa false
set_option linter.unusedSectionVars false
set_option linter.unusedVariables false

/-- Exits, with the marks that the frame holds of its ranges. -/
abbrev PR := Exit → Env → List Nat → World → Prop

abbrev thenR (next : Env → List Nat → World → Prop) (Q : PR) : PR
  | .normal, ρ, ms, w => next ρ ms w
  | e, ρ, ms, w => Q e ρ ms w
abbrev inBlockR (id : Nat) (Q : PR) : PR
  | .exit k, ρ, ms, w => if k = id then Q .normal ρ ms w else Q (.exit k) ρ ms w
  | e, ρ, ms, w => Q e ρ ms w
abbrev loopR (n : Nat) (I : List Nat → PT n) (m : MT n) (live : List Nat) (k : Nat) (Q : PR) : PR
  | .normal, ρ, ms, w => apP n (I ms) (live.map ρ) w ∧ apM n m (live.map ρ) w < k
  | e, ρ, ms, w => Q e ρ ms w
def cutR (x : PR → Prop) (y : Env → List Nat → World → Prop) (live : List Nat) (mods : Nat) (Q : PR) (ρ : Env) : Prop :=
  ∃ I : List Nat → PT live.length, x (thenR (fun ρ' ms' w' => apP live.length (I ms') (live.map ρ') w') Q) ∧
    ∀ j : Env, allV live.length fun vs => ∀ ms' w', apP live.length (I ms') vs w' → y (mkE ρ mods j live vs) ms' w'

def nthV : List Value → Nat → Value
  | [], _ => undef
  | v :: _, 0 => v
  | _ :: r, n + 1 => nthV r n
def putsE (ρ : Env) : List Nat → Nat → List Value → Env
  | p :: ps, i, vs => putsE (ρ.put (some p) (nthV vs i)) ps (i + 1) vs
  | [], _, _ => ρ
def exitsOf : Code → List Nat
  | .exit id => [id]
  | .seq x y => exitsOf x ++ exitsOf y
  | .cond _ x y => exitsOf x ++ exitsOf y
  | .block _ c => exitsOf c
  | .loop c => exitsOf c
  | .rangeFunc _ _ _ c => exitsOf c
  | _ => []

def mkD (r : Nat) : Deferred := { target := .collected r, args := #[] }
def busyOf (r : Loop) : Loop := { r with state := .busy }
def leftBy (r : Loop) (c : Code) : Loop := { r with state := .done, pending := some c }
def spent (r : Loop) : Loop := { r with state := .exhausted }
/-- A round begins. -/
def bgW (l : Nat) (rc : Loop) (w : World) (K : World → Prop) : Prop := w.heap[l]? = some (.loop rc) ∧ K (w.putObj l (.loop (busyOf rc)))
/-- A round ends: off its end, or by a jump. -/
def enW (l : Nat) (rc : Loop) (c : Option Code) (K : Value → World → Prop) (w : World) : Prop :=
  w.heap[l]? = some (.loop (busyOf rc)) ∧ match c with
    | none => K (.bool true) (w.putObj l (.loop rc))
    | some c => K (.bool false) (w.putObj l (.loop (leftBy rc c)))
abbrev rndQ (l : Nat) (rc : Loop) (K : Value → World → Prop) : PR
  | .normal, _, _, w => enW l rc none K w
  | .ret, _, _, w => enW l rc (some .ret) K w
  | .exit id, _, _, w => enW l rc (some (.exit id)) K w
  | _, _, _, _ => False

abbrev LX := List (Nat × (List Nat → World → Prop))
def jx : LX → Nat → List Nat → World → Prop
  | [], _, _, _ => False
  | (k, q) :: r, id, ms, w => match Nat.beq k id with
    | true => q ms w
    | false => jx r id ms w
/-- Where the function that was ranged over has returned: the pending jump. -/
def jmpW (l : Nat) (ms : List Nat) (N R : List Nat → World → Prop) (X : LX) (w : World) : Prop :=
  ∃ rc : Loop, w.heap[l]? = some (.loop rc) ∧ rc.state ≠ .busy ∧ match rc.pending with
    | none => N ms (w.putObj l (.loop (spent rc)))
    | some .ret => R ms (w.putObj l (.loop (spent rc)))
    | some (.exit id) => jx X id ms (w.putObj l (.loop (spent rc)))
    | _ => False
def pE (P : Program) (m : Sem Next) (w : World) (K : Value → World → Prop) : Prop := ∃ f args, m.run P w = .ok (.enter f args) w ∧ Calls P f args w (@retP Pan.no K)

def rfB (P : Program) (ms : List Nat) (l : Nat) (rc : Loop) (w : World) (g : Value) (np : Nat) (B : Nat → Loop → List Value → World → (Value → World → Prop) → Prop) (N R : List Nat → World → Prop) (X : LX) : Prop :=
  (∀ (Z : Pan) (args : List Value) (w' : World) (K : Value → World → Prop), args.length = np → w'.heap[l]? = some (.loop rc) → B l rc args w' K → @pY Z P (oCallV (.func (.yield l) #[] #[]) args) w' K) →
  pE P (oCallV g [.func (.yield l) #[] #[]]) w fun _ w₂ => jmpW l ms N R X w₂

/-- A range over a function: outermost, or in a round. -/
def rfW (P : Program) (rd : Option Nat) (ms : List Nat) (w : World) (g : Value) (np : Nat) (B : Nat → Loop → List Value → World → (Value → World → Prop) → Prop) (N R : List Nat → World → Prop) (X : LX) : Prop :=
  match rd with
  | none => ∀ rc : Loop, rc.state = .ready → rc.pending = none → rfB P (w.heap.size :: ms) (w.heap.size + 1) rc ((w.alloc (.deferred (some []))).alloc (.loop rc)) g np B N R X
  | some l₀ => (∃ r, w.heap[l₀]? = some (.loop r)) ∧ ∀ rc : Loop, rc.state = .ready → rc.pending = none → rfB P ms w.heap.size rc (w.alloc (.loop rc)) g np B N R X

def cwR (P : Program) (H : Hints) : Code → Option Nat → PR → Env → List Nat → World → Prop
  | .skip, _, Q, ρ, ms, w => Q .normal ρ ms w
  | .seq x y, rd, Q, ρ, ms, w => match (firstRg y).bind H.cut with
    | none => cwR P H x rd (thenR (fun ρ' ms' w' => cwR P H y rd Q ρ' ms' w') Q) ρ ms w
    | some (live, mods) => cutR (fun Q' => cwR P H x rd Q' ρ ms w) (fun ρ' ms' w' => cwR P H y rd Q ρ' ms' w') live mods Q ρ
  | .region id ops b, _, Q, ρ, ms, w => match b with
    | false => @rgR Pan.no P ops ops.toList ρ w fun ρ' w' => Q .normal ρ' ms w'
    | true => pDr w fun w => match H.order id with
      | [] => @dwR Pan.no P ops ops.size (Array.replicate ops.size false) [] ρ w fun ρ' w' => Q .normal ρ' ms w'
      | s => @dwSR Pan.no P ops ops.toList s [] ρ w fun ρ' w' => Q .normal ρ' ms w'
  | .cond c x y, rd, Q, ρ, ms, w => pIf (ev ρ c) (cwR P H x rd Q ρ ms w) (cwR P H y rd Q ρ ms w)
  | .block id c, rd, Q, ρ, ms, w => cwR P H c rd (inBlockR id Q) ρ ms w
  | .loop c, rd, Q, ρ, ms, w => match (firstRg c).map H.loop with
    | some (live, mods) => ∃ (I : List Nat → PT live.length) (m : MT live.length), apP live.length (I ms) (live.map ρ) w ∧
      ∀ j : Env, allV live.length fun vs => ∀ ms' w', apP live.length (I ms') vs w' →
        cwR P H c rd (loopR live.length I m live (apM live.length m vs w') Q) (mkE ρ mods j live vs) ms' w'
    | none => False
  | .rangeFunc g ps assign body, rd, Q, ρ, ms, w => rfW P rd ms w (ev ρ g) ps.toList.length
      (fun l rc args w K => cwR P H assign (some l) (thenR (fun ρ' ms' w' => bgW l rc w' fun w'' => cwR P H body (some l) (rndQ l rc K) ρ' ms' w'') (fun _ _ _ _ => False)) (putsE ρ ps.toList 0 args) [] w)
      (Q .normal ρ) (Q .ret ρ) ((exitsOf body).map fun id => (id, Q (.exit id) ρ))
  | .exit id, _, Q, ρ, ms, w => Q (.exit id) ρ ms w
  | .ret, _, Q, ρ, ms, w => Q .ret ρ ms w
  | _, _, _, _, _, _ => False

def servedR (H : Hints) (n : Nat) : Code → Bool
  | .skip | .exit _ | .ret => true
  | .seq x y => servedR H n x && servedR H n y && (match (firstRg y).bind H.cut with
    | none => true
    | some (_, mods) => (writes x).all fun t => mods.testBit t)
  | .region id ops b => ((opWrites ops.toList).all fun t => Nat.blt t n) && (ops.toList.all notDf) && match b with
    | false => true
    | true => Region.noSelect ops && (match H.order id with
      | [] => true
      | s => okS ops ops.toList ops.toList.length s 0 && Nat.beq s.length ops.toList.length && (ops.toList.all fun o => o.after.toList.all fun e => Nat.blt e.on ops.toList.length))
  | .cond _ x y => servedR H n x && servedR H n y
  | .block _ c => servedR H n c
  | .loop c => servedR H n c && (match (firstRg c).map H.loop with
    | some (_, mods) => (writes c).all fun t => mods.testBit t
    | none => false)
  | .rangeFunc _ ps assign body => servedR H n assign && servedR H n body && ps.toList.all fun t => Nat.blt t n
  | _ => false

/-! ### That it serves -/
abbrev FrmR (n : Nat) (ms : List Nat) : Frm := ⟨n, 0, ms.map mkD, fun _ => undef⟩

def UpR (n : Nat) (a : Act) (ws : List Nat) (Q : PR) : Exit → Act → World → Prop
  | .panic _, _, _ => False
  | .outgrown, _, _ => False
  | .goto _, _, _ => False
  | e, a', w => (∀ t, t ∉ ws → a'.tmps.getD t undef = a.tmps.getD t undef) ∧ ∃ ρ' ms', Fits (FrmR n ms') a' ρ' ∧ Q e ρ' ms' w

theorem UpR.mono {n : Nat} {a : Act} {ws ws' : List Nat} {Q : PR} (hw : ∀ t ∈ ws, t ∈ ws') : ∀ e a' w, UpR n a ws Q e a' w → UpR n a ws' Q e a' w := by
  intro e a' w h
  cases e <;> first | exact h | exact ⟨fun t ht => h.1 t fun hm => ht (hw t hm), h.2⟩
theorem UpR.next {n : Nat} {a a₁ : Act} {ws ws' : List Nat} {Q : PR} (hk : ∀ t, t ∉ ws → a₁.tmps.getD t undef = a.tmps.getD t undef) : ∀ e a' w, UpR n a₁ ws' Q e a' w → UpR n a (ws ++ ws') Q e a' w := by
  intro e a' w h
  have key : ∀ t, t ∉ ws ++ ws' → (∀ t, t ∉ ws' → a'.tmps.getD t undef = a₁.tmps.getD t undef) → a'.tmps.getD t undef = a.tmps.getD t undef := by
    intro t ht h1
    simp only [List.mem_append, not_or] at ht
    rw [h1 t ht.2, hk t ht.1]
  cases e <;> first | exact h | exact ⟨fun t ht => key t ht h.1, h.2⟩

theorem UpR.letsOut {n : Nat} {a : Act} {ws : List Nat} {Q : PR} : ¬ LetsOut (UpR n a ws Q) := fun ⟨_, _, h⟩ => h

theorem nthV_app (v : Value) (r : List Value) : ∀ pre : List Value, nthV (pre ++ v :: r) pre.length = v
  | [] => rfl
  | u :: pre => nthV_app v r pre
theorem puts_fits {n : Nat} {ms : List Nat} : ∀ (ps : List Nat) (pre vs : List Value) {a : Act} {ρ : Env}, Fits (FrmR n ms) a ρ → (∀ p ∈ ps, p < n) → vs.length = ps.length →
    Fits (FrmR n ms) { a with tmps := (ps.zip vs).foldl (fun tmps (t, v) => tmps.setIfInBounds t v) a.tmps } (putsE ρ ps pre.length (pre ++ vs))
  | [], _, [], _, _, hf, _, _ => hf
  | p :: ps, pre, v :: vs, a, ρ, hf, h, hl => by
    have h1 := hf.put (d := some p) (fun t ht => by cases ht; exact ⟨Nat.zero_le _, h p List.mem_cons_self⟩) v
    have h2 := puts_fits ps (pre ++ [v]) vs h1 (fun q hq => h q (List.mem_cons_of_mem _ hq)) (by simpa using hl)
    simp only [putsE, nthV_app]
    simp only [List.length_append, List.length_singleton, List.append_assoc, List.singleton_append] at h2
    exact h2

theorem fits_round {n : Nat} {ms : List Nat} {a : Act} {ρ : Env} (hf : Fits (FrmR n ms) a ρ) : Fits (FrmR n []) { tmps := a.tmps, defers := [] } ρ := ⟨hf.size, rfl, hf.get, fun t ht => absurd ht (Nat.not_lt_zero t)⟩
theorem fits_more {n : Nat} {ms ms' : List Nat} {a : Act} {ρ : Env} (hf : Fits (FrmR n ms) a ρ) : Fits (FrmR n ms') { tmps := a.tmps, defers := ms'.map mkD } ρ := ⟨hf.size, rfl, hf.get, fun t ht => absurd ht (Nat.not_lt_zero t)⟩

theorem jx_get {X : LX} {id : Nat} {ms : List Nat} {w : World} (h : jx X id ms w) : ∃ q, (id, q) ∈ X ∧ q ms w := by
  induction X with
  | nil => exact h.elim
  | cons p r ih =>
    obtain ⟨k, q⟩ := p
    simp only [jx] at h
    cases e : Nat.beq k id with
    | true => rw [e] at h; rw [← Nat.eq_of_beq_eq_true e]; exact ⟨q, List.mem_cons_self, h⟩
    | false => rw [e] at h; obtain ⟨q', h1, h2⟩ := ih h; exact ⟨q', List.mem_cons_of_mem _ h1, h2⟩

theorem rfB_wp {P : Program} {n : Nat} {g : Operand} {ps : Array Tmp} {assign body : Code} {a : Act} {ρ : Env} {ms ms' : List Nat} {w₁ : World} {l : Nat} {rd : Option Nat} {fn : FuncId} {ws : List Nat} {Q : PR} {blk : Nat}
    {B : Nat → Loop → List Value → World → (Value → World → Prop) → Prop} (hf : Fits (FrmR n ms) a ρ)
    (hB : ∀ (args : List Value) (w' : World) (K : Value → World → Prop) (rc : Loop), args.length = ps.toList.length → rc = { state := .ready, pending := none, fn := fn, tmps := a.tmps, params := ps, assign := assign, body := body, defers := blk } → w'.heap[l]? = some (.loop rc) → B l rc args w' K →
      RoundIn (Fr none) 0 P l fn ((ps.zip args.toArray).foldl (fun tmps (t, a) => tmps.setIfInBounds t a) a.tmps) assign body w' (@retP Pan.no K))
    (hb : rfB P ms' l { state := .ready, pending := none, fn := fn, tmps := a.tmps, params := ps, assign := assign, body := body, defers := blk } w₁ (ev ρ g) ps.toList.length B (Q .normal ρ) (Q .ret ρ) ((exitsOf body).map fun id => (id, Q (.exit id) ρ))) :
    ∃ (d : Deferred) (f : FuncId) (args : Array Value) (w₂ : World), (resolve a.eval (rangeCall g l) 0).run P w₁ = .ok d w₁ ∧ (invoke d.target d.args).run P w₁ = .ok (.enter f args) w₂ ∧
      CallsIn (Fr rd) 0 P f args w₂ (rangePost (Fr rd) 0 P l (UpR n a ws Q) { tmps := a.tmps, defers := ms'.map mkD }) := by
  obtain ⟨f, args, hrun, hcall⟩ := hb fun Z args w' K hl hw hBB => by
    have hR := hB args w' K _ hl rfl hw hBB
    have hy : (oCallV (.func (.yield l) #[] #[]) args).run P w' = .ok (.round l fn ((ps.zip args.toArray).foldl (fun tmps (t, a) => tmps.setIfInBounds t a) a.tmps) assign body) w' := by
      have := run_yield (P := P) (args := args.toArray) hw (by simpa using hl)
      have e : oCallV (.func (.yield l) #[] #[]) args = Instr.yield l args.toArray := by
        simp only [oCallV, Deferred.ofValue, pure_bind, invoke, Array.empty_append, Array.append_empty]
      rw [e]; exact this
    unfold pY rY
    rw [hy]
    exact RoundIn.mono hR fun e w' he => by
      cases e with
      | returned v => exact he
      | panicked c => exact he.elim
      | outgrown => exact he.elim
  have e : (resolve a.eval (rangeCall g l) 0) = Deferred.ofValue (ev ρ g) #[.func (.yield l) #[] #[]] := by
    rw [hf.eval]
    simp [resolve, rangeCall, ev]
  unfold oCallV at hrun
  rw [Sem.run_bind] at hrun
  have hinv : ∀ (s : Value) (xs : Array Value) (d : Deferred) (w' : World), (Deferred.ofValue s xs).run P w₁ = .ok d w' → w' = w₁ := by
    intro s xs d w' h
    unfold Deferred.ofValue at h
    split at h <;> first | (cases h; rfl) | (simp [Sem.run, runtimePanic, stuck] at h) | skip
    all_goals (cases h)
  cases hd : (Deferred.ofValue (ev ρ g) #[.func (.yield l) #[] #[]]).run P w₁ with
  | halt x w' =>
    have hd' : (Deferred.ofValue (ev ρ g) ([Value.func (.yield l) #[] #[]] : List Value).toArray).run P w₁ = .halt x w' := hd
    rw [hd'] at hrun
    simp [Result.andThen] at hrun
  | ok d w' =>
    obtain rfl := hinv _ _ _ _ hd
    have hd' : (Deferred.ofValue (ev ρ g) ([Value.func (.yield l) #[] #[]] : List Value).toArray).run P w' = .ok d w' := hd
    rw [hd', Result.andThen_ok] at hrun
    refine ⟨d, f, args, w', by rw [e]; exact hd, hrun, Fr.calls (Calls.mono hcall fun e w₂ he => ?_)⟩
    cases e with
    | panicked c => exact he.elim
    | outgrown => exact he.elim
    | returned v =>
      obtain ⟨rc, hrc, hst, hp⟩ := he
      refine ⟨rc.pending, w₂.putObj l (.loop (spent rc)), run_endLoop hrc hst, ?_⟩
      generalize w₂.putObj l (.loop (spent rc)) = W at hp ⊢
      have hf2 : Fits (FrmR n ms') { tmps := a.tmps, defers := ms'.map mkD } ρ := fits_more hf
      cases hpd : rc.pending with
      | none => rw [hpd] at hp; exact ⟨fun _ _ => rfl, ρ, ms', hf2, hp⟩
      | some c =>
        rw [hpd] at hp
        cases c with
        | ret => exact wpIn_ret ⟨fun _ _ => rfl, ρ, ms', hf2, hp⟩
        | exit id =>
          obtain ⟨q, hq, hqq⟩ := jx_get hp
          obtain ⟨id', _, he⟩ := List.mem_map.1 hq
          cases he
          exact wpIn_exit ⟨fun _ _ => rfl, ρ, ms', hf2, hqq⟩
        | _ => exact hp.elim

theorem cwR_wp {P : Program} (hm : P.follows .mixedOrders = true) {H : Hints} {n : Nat} (c : Code) : ∀ {rd : Option Nat} {Q : PR} {ρ : Env} {ms : List Nat} {w : World} {a : Act},
    servedR H n c = true → Fits (FrmR n ms) a ρ → cwR P H c rd Q ρ ms w → c.wpIn (Fr rd) 0 P (UpR n a (writes c) Q) a w := by
  induction c with
  | skip => intro rd Q ρ ms w a _ hf h; exact wpIn_skip ⟨fun _ _ => rfl, ρ, ms, hf, h⟩
  | exit id => intro rd Q ρ ms w a _ hf h; exact wpIn_exit ⟨fun _ _ => rfl, ρ, ms, hf, h⟩
  | ret => intro rd Q ρ ms w a _ hf h; exact wpIn_ret ⟨fun _ _ => rfl, ρ, ms, hf, h⟩
  | region id ops draw =>
    intro rd Q ρ ms w a hs hf h
    simp only [servedR, Bool.and_eq_true] at hs
    obtain ⟨⟨hs1, hnd⟩, hs2⟩ := hs
    simp only [List.all_eq_true] at hs1 hnd
    have hndj : ∀ (j : Nat) (o : Oper), ops[j]? = some o → notDf o = true := fun j o ho => hnd o (by simpa using Array.mem_of_getElem? ho)
    have hlt : ∀ t ∈ opWrites ops.toList, (FrmR n ms).lo ≤ t ∧ t < (FrmR n ms).n := fun t ht => ⟨Nat.zero_le _, by simpa [Nat.blt_eq] using hs1 t ht⟩
    cases draw with
    | true =>
      simp only [Bool.and_eq_true] at hs2
      obtain ⟨hs2, hs3⟩ := hs2
      simp only [cwR, pDr] at h
      refine wpIn_region_any hm (wpAnyIn_of_T _ _ [] _ _ ?_)
      have hcl : Clo ops (Array.replicate ops.size false) := by
        intro j o ho hl
        have hlt := (Array.getElem?_eq_some_iff.1 ho).1
        simp [hlt] at hl
      have hq : ∀ c a' w, UpR n a (writes (.region id ops true)) Q (.panic c) a' w ↔ @PZ Pan.no (FrmR n ms) a' c w := fun c a' w => ⟨fun h => h.elim, fun h => h.z⟩
      cases ho : H.order id with
      | nil =>
        rw [ho] at h
        exact dwR_any (P := P) (rd := rd) hs2 hndj hlt (Q := UpR n a (writes (.region id ops true)) Q) hq UpR.letsOut a
          (fun a' ρ' w' hk hf' hq => ⟨hk, ρ', ms, hf', hq⟩) ops.size _ [] ρ a _ hcl hf (fun _ _ => rfl) (fun p hp => by cases hp) h
      | cons p r =>
        rw [ho] at h hs3
        simp only [Bool.and_eq_true] at hs3
        obtain ⟨⟨hok, hlen⟩, hed⟩ := hs3
        have hlen := Nat.eq_of_beq_eq_true hlen
        simp only [Array.length_toList] at hok hlen hed
        have hb : ∀ (j : Nat) (o : Oper), ops[j]? = some o → ∀ e ∈ o.after, Region.binds .any e = true → e.on < ops.size := by
          intro j o hj e he _
          simp only [List.all_eq_true] at hed
          have := hed o (by simpa using Array.mem_of_getElem? hj) e (by simpa using he)
          simpa [Nat.blt_eq] using this
        have hrel : RelM ops.size 0 (Array.replicate ops.size false) := ⟨by simp, fun j hj => by simp [hj]⟩
        have H := dwSR_any (P := P) (rd := rd) hs2 hndj hlt hb (Q := UpR n a (writes (.region id ops true)) Q) hq UpR.letsOut a
          (fun a' ρ' w' hk hf' hq => ⟨hk, ρ', ms, hf', hq⟩) (p :: r) 0 _ [] ρ a _ hrel hok hcl hf (fun _ _ => rfl) (fun p hp => by cases hp) h
        rw [hlen] at H
        exact H
    | false =>
      exact wpIn_region_list (rgR_wp (n := FrmR n ms) ops.toList (fun c a w h => h.z) hnd hlt hf h fun a' ρ' w' hk hf' hq => ⟨hk, ρ', ms, hf', hq⟩)
  | seq x y ihx ihy =>
    intro rd Q ρ ms w a hs hf h
    simp only [servedR, Bool.and_eq_true] at hs
    simp only [cwR] at h
    refine wpIn_seq ?_
    have fin : ∀ {Q' : Env → List Nat → World → Prop} e a' w, UpR n a (writes x) (thenR Q' Q) e a' w → e ≠ .normal → Exit.then (y.wpIn (Fr rd) 0 P (UpR n a (writes (.seq x y)) Q)) (UpR n a (writes (.seq x y)) Q) e a' w := by
      intro Q' e a' w hq hne
      have hw : ∀ t ∈ writes x, t ∈ writes (.seq x y) := by simp [writes]; intro t ht; exact .inl ht
      cases e with
      | normal => exact absurd rfl hne
      | panic c => exact hq.elim
      | outgrown => exact hq.elim
      | goto l => exact hq.elim
      | exit id => exact ⟨fun t ht => hq.1 t fun hm => ht (hw t hm), hq.2⟩
      | ret => exact ⟨fun t ht => hq.1 t fun hm => ht (hw t hm), hq.2⟩
    split at h
    · have hs := hs.1
      refine wpIn_mono (ihx hs.1 hf h) fun e a' w' hq => ?_
      cases e with
      | normal =>
        obtain ⟨hk, ρ', ms', hf', hq'⟩ := hq
        exact wpIn_mono (ihy hs.2 hf' hq') (UpR.next hk)
      | _ => exact fin _ _ _ hq (by simp)
    · rename_i live mods hcut
      have hmods : ∀ t, mods.testBit t = false → t ∉ writes x := by
        have := hs.2
        rw [hcut] at this
        simp only [List.all_eq_true] at this
        intro t ht hm
        rw [this t hm] at ht; cases ht
      have hs := hs.1
      obtain ⟨I, hx, hy⟩ := h
      refine wpIn_mono (ihx hs.1 hf hx) fun e a' w' hq => ?_
      cases e with
      | normal =>
        obtain ⟨hk, ρ', ms', hf', hq'⟩ := hq
        have hy' := allV_get (hy ρ') (live.map ρ') (by simp) ms' w' hq'
        have hm : mkE ρ mods ρ' live (live.map ρ') = ρ' := mkE_self ρ ρ' _ (fun t ht => by rw [← hf'.get t, hk t (hmods t ht), hf.get t]) live
        dsimp only at hy'
        rw [hm] at hy'
        exact wpIn_mono (ihy hs.2 hf' hy') (UpR.next hk)
      | _ => exact fin _ _ _ hq (by simp)
  | cond c x y ihx ihy =>
    intro rd Q ρ ms w a hs hf h
    simp only [servedR, Bool.and_eq_true] at hs
    simp only [cwR] at h
    have hc : a.eval c = ev ρ c := by rw [hf.eval]
    unfold pIf at h
    split at h
    · rename_i hv
      exact wpIn_cond_true (hc.trans hv) (wpIn_mono (ihx hs.1 hf h) (UpR.mono (by simp [writes]; intro t ht; exact .inl ht)))
    · rename_i hv
      exact wpIn_cond_false (hc.trans hv) (wpIn_mono (ihy hs.2 hf h) (UpR.mono (by simp [writes]; intro t ht; exact .inr ht)))
    · exact h.elim
  | block id c ih =>
    intro rd Q ρ ms w a hs hf h
    simp only [servedR] at hs
    simp only [cwR] at h
    refine wpIn_block (wpIn_mono (ih hs hf h) fun e a' w' hq => ?_)
    cases e with
    | panic c => exact hq.elim
    | outgrown => exact hq.elim
    | goto l => exact hq.elim
    | normal => exact hq
    | ret => exact hq
    | exit k =>
      obtain ⟨hk, ρ', ms', hf', hq'⟩ := hq
      simp only [inBlockR] at hq'
      simp only [Exit.inBlock]
      split
      · rename_i e; rw [if_pos e] at hq'; exact ⟨hk, ρ', ms', hf', hq'⟩
      · rename_i e; rw [if_neg e] at hq'; exact ⟨hk, ρ', ms', hf', hq'⟩
  | loop c ih =>
    intro rd Q ρ ms w a hs hf h
    simp only [servedR, Bool.and_eq_true] at hs
    simp only [cwR] at h
    obtain ⟨hs, hmm⟩ := hs
    split at h
    rotate_left
    · exact h.elim
    rename_i live mods hlm
    rw [hlm] at hmm
    simp only [List.all_eq_true] at hmm
    have hmods : ∀ t, mods.testBit t = false → t ∉ writes c := by
      intro t ht hm
      rw [hmm t hm] at ht; cases ht
    obtain ⟨I, m, h0, hstep⟩ := h
    refine wpIn_loop (fun a' w' => (∀ t, t ∉ writes c → a'.tmps.getD t undef = a.tmps.getD t undef) ∧ a'.tmps.size = n ∧ ∃ ms', a'.defers = ms'.map mkD ∧ apP live.length (I ms') (live.map fun t => a'.tmps.getD t undef) w')
      (fun a' w' => apM live.length m (live.map fun t => a'.tmps.getD t undef) w') ⟨fun _ _ => rfl, hf.size, ms, hf.defers, ?_⟩ ?_
    · have e : (fun t => a.tmps.getD t undef) = ρ := funext hf.get
      rw [e]; exact h0
    · intro a₁ w₁ ⟨hk, hsz, ms₁, hdf, hI⟩
      have hf₁ : Fits (FrmR n ms₁) a₁ (fun t => a₁.tmps.getD t undef) := ⟨hsz, hdf, fun _ => rfl, fun t ht => absurd ht (Nat.not_lt_zero t)⟩
      have hs' := allV_get (hstep fun t => a₁.tmps.getD t undef) (live.map fun t => a₁.tmps.getD t undef) (by simp) ms₁ w₁ hI
      rw [mkE_self ρ _ _ (fun t ht => by rw [hk t (hmods t ht), hf.get t]) live] at hs'
      refine wpIn_mono (ih hs hf₁ hs') fun e a' w' hq => ?_
      cases e with
      | panic c => exact hq.elim
      | outgrown => exact hq.elim
      | goto l => exact hq.elim
      | normal =>
        obtain ⟨hk', ρ', ms', hf', hq'⟩ := hq
        have e : (fun t => a'.tmps.getD t undef) = ρ' := funext hf'.get
        refine ⟨⟨fun t ht => (hk' t ht).trans (hk t ht), hf'.size, ms', hf'.defers, ?_⟩, ?_⟩
        · rw [e]; exact hq'.1
        · rw [e]; exact hq'.2
      | exit k => exact ⟨fun t ht => (hq.1 t ht).trans (hk t ht), hq.2⟩
      | ret => exact ⟨fun t ht => (hq.1 t ht).trans (hk t ht), hq.2⟩
  | rangeFunc g ps assign body iha ihb =>
    intro rd Q ρ ms w a hs hf h
    simp only [servedR, Bool.and_eq_true, List.all_eq_true] at hs
    obtain ⟨⟨hs1, hs2⟩, hs3⟩ := hs
    simp only [cwR] at h
    have hps : ∀ p ∈ ps.toList, p < n := fun p hp => by simpa [Nat.blt_eq] using hs3 p hp
    -- a round, out of its body
    have round : ∀ (fn : FuncId) (blk l : Nat) (args : List Value) (w' : World) (K : Value → World → Prop) (rc : Loop), args.length = ps.toList.length → rc = { state := .ready, pending := none, fn := fn, tmps := a.tmps, params := ps, assign := assign, body := body, defers := blk } → w'.heap[l]? = some (.loop rc) →
        cwR P H assign (some l) (thenR (fun ρ' ms' w' => bgW l rc w' fun w'' => cwR P H body (some l) (rndQ l rc K) ρ' ms' w'') (fun _ _ _ _ => False)) (putsE ρ ps.toList 0 args) [] w' →
        RoundIn (Fr none) 0 P l fn ((ps.zip args.toArray).foldl (fun tmps (t, a) => tmps.setIfInBounds t a) a.tmps) assign body w' (@retP Pan.no K) := by
      intro fn blk l args w' K rc hl hrc hw hB
      have hf0 := puts_fits ps.toList [] args (fits_round hf) hps (by simpa using hl)
      have ez : (ps.zip args.toArray).foldl (fun tmps (t, a) => tmps.setIfInBounds t a) a.tmps = (ps.toList.zip args).foldl (fun tmps (t, a) => tmps.setIfInBounds t a) a.tmps := by
        rw [← Array.foldl_toList, Array.toList_zip]
      rw [ez]
      refine roundIn_of_wpIn (F := Fr none) trivial ?_
      refine wpIn_mono (iha (rd := some l) hs1 hf0 hB) fun e a' w₁ hq => ?_
      cases e with
      | panic c => exact hq.elim
      | outgrown => exact hq.elim
      | goto l => exact hq.elim
      | exit k => exact hq.2.choose_spec.choose_spec.2.elim
      | ret => exact hq.2.choose_spec.choose_spec.2.elim
      | normal =>
        obtain ⟨_, ρ', ms', hf', hb1, hb2⟩ := hq
        have hrdy : rc.state = .ready := by rw [hrc]
        refine ⟨_, run_beginRound hb1 hrdy, wpIn_mono (ihb (rd := some l) hs2 hf' hb2) fun e a'' w₂ hq => ?_⟩
        have hback : ({ busyOf rc with state := if (none : Option Code).isNone then .ready else .done, pending := none } : Loop) = rc := by rw [hrc]; rfl
        have hleft : ∀ c : Code, ({ busyOf rc with state := if (some c).isNone then .ready else .done, pending := some c } : Loop) = leftBy rc c := fun c => rfl
        cases e with
        | panic c => exact hq.elim
        | outgrown => exact hq.elim
        | goto l => exact hq.elim
        | normal =>
          obtain ⟨_, _, _, _, h1, h2⟩ := hq
          refine ⟨_, _, run_endRound none h1, ?_⟩
          rw [hback]; exact h2
        | ret =>
          obtain ⟨_, _, _, _, h1, h2⟩ := hq
          exact ⟨_, _, run_endRound (some .ret) h1, h2⟩
        | exit id =>
          obtain ⟨_, _, _, _, h1, h2⟩ := hq
          exact ⟨_, _, run_endRound (some (.exit id)) h1, h2⟩
    refine wpIn_rangeFunc fun fn _ => ?_
    unfold rfW at h
    cases rd with
    | none =>
      dsimp only at h
      have hb := h { state := .ready, pending := none, fn := fn, tmps := a.tmps, params := ps, assign := assign, body := body, defers := w.heap.size } rfl rfl
      obtain ⟨d, f, args, w₂, h1, h2, h3⟩ := rfB_wp (rd := none) (ws := writes (.rangeFunc g ps assign body)) hf (fun args w' K rc => round fn _ _ args w' K rc) hb
      refine ⟨_, _, _, d, _, f, args, w₂, run_enterLoop_outer fn a.tmps ps assign body, h1, fun _ _ => trivial, h2, Fr.deep _ _, ?_⟩
      have e : ([{ target := .collected w.heap.size, args := #[] }] : List Deferred) ++ a.defers = (w.heap.size :: ms).map mkD := by rw [hf.defers]; rfl
      rw [e]; exact h3
    | some l₀ =>
      dsimp only at h
      obtain ⟨⟨r, hr⟩, h⟩ := h
      have hb := h { state := .ready, pending := none, fn := fn, tmps := a.tmps, params := ps, assign := assign, body := body, defers := r.defers } rfl rfl
      obtain ⟨d, f, args, w₂, h1, h2, h3⟩ := rfB_wp (rd := some l₀) (ws := writes (.rangeFunc g ps assign body)) hf (fun args w' K rc => round fn _ _ args w' K rc) hb
      refine ⟨w.heap.size, [], _, d, _, f, args, w₂, ?_, h1, fun _ _ => trivial, h2, Fr.deep _ _, ?_⟩
      · unfold Instr.enterLoop
        simp only [Sem.run_bind, run_getLoop hr, run_newObj_alloc, Result.andThen, Sem.run_pure]
      · have e : ([] : List Deferred) ++ a.defers = ms.map mkD := by rw [hf.defers]; rfl
        rw [e]; exact h3
  | scope c => intro rd Q ρ ms w a hs; simp [servedR] at hs
  | label l => intro rd Q ρ ms w a hs; simp [servedR] at hs
  | goto l => intro rd Q ρ ms w a hs; simp [servedR] at hs
  | refuse s => intro rd Q ρ ms w a hs; simp [servedR] at hs

/-! ### A whole function -/
/-- At the end: the marks are met, one by one. -/
def mkW : List Nat → World → (World → Prop) → Prop
  | [], w, K => K w
  | r :: ms, w, K => w.heap[r]? = some (.deferred (some [])) ∧ mkW ms (w.putObj r (.deferred none)) K
abbrev endR (P : Program) (rs : List ResultVar) (K : Value → World → Prop) : PR
  | .normal, ρ, ms, w => mkW ms w fun w => @resW P rs [] ρ w K
  | .ret, ρ, ms, w => mkW ms w fun w => @resW P rs [] ρ w K
  | _, _, _, _ => False

theorem leavesM {P : Program} {fn : Func} {n : Nat} {ρ : Env} {K : Value → World → Prop} (ms : List Nat) : ∀ {a : Act} {w : World}, Fits (FrmR n ms) a ρ → mkW ms w (fun w => @resW P fn.results.toList [] ρ w K) →
    LeavesInM (Fr none) 0 P fn a.tmps (@retP Pan.no K) (ms.map mkD) .returning w := by
  induction ms with
  | nil =>
    intro a w hf h
    obtain ⟨vs, hr, hK⟩ := resW_run _ _ h
    exact ⟨_, results_one hf fn w P vs hr, by simpa [retP] using hK⟩
  | cons r ms ih =>
    intro a w hf h
    obtain ⟨h1, h2⟩ := h
    have hf2 : Fits (FrmR n ms) { tmps := a.tmps, defers := ms.map mkD } ρ := ⟨hf.size, rfl, hf.get, fun t ht => absurd ht (Nat.not_lt_zero t)⟩
    exact ⟨by simp, .inl ⟨r, _, rfl, run_takeDeferred h1, ih (a := { tmps := a.tmps, defers := ms.map mkD }) hf2 h2⟩⟩

theorem calls_of_cwR {P : Program} (hm : P.follows .mixedOrders = true) {H : Hints} {f : FuncId} {fn : Func} {c : Code} {args : List Value} {w : World} {K : Value → World → Prop}
    (hfn : P.funcs[f]? = some fn) (hb : fn.body = some c) (hs : servedR H fn.ntmps c = true) (ha : args.length ≤ fn.ntmps)
    (h : cwR P H c none (endR P fn.results.toList K) (argsE args) [] w) : Calls P f args.toArray w (@retP Pan.no K) := by
  refine (callsIn_wide (n := 0)).1 ?_
  refine callsIn_of_wp_marks (F := Fr none) hfn hb trivial ?_
  have hf : Fits (FrmR fn.ntmps []) { tmps := args.toArray ++ Array.replicate (fn.ntmps - args.toArray.size) undef, defers := [] } (argsE args) := fits_new fn.ntmps args ha
  refine wpIn_mono (cwR_wp hm c hs hf h) fun e a' w' hq => ?_
  cases e with
  | panic c => exact hq.elim
  | outgrown => exact hq.elim
  | goto l => exact hq.elim
  | exit id => exact hq.2.choose_spec.choose_spec.2.elim
  | normal =>
    obtain ⟨_, ρ', ms', hf', hq⟩ := hq
    show LeavesInM (Fr none) 0 P fn a'.tmps (@retP Pan.no K) a'.defers .returning w'
    rw [hf'.defers]
    exact leavesM ms' hf' hq
  | ret =>
    obtain ⟨_, ρ', ms', hf', hq⟩ := hq
    show LeavesInM (Fr none) 0 P fn a'.tmps (@retP Pan.no K) a'.defers .returning w'
    rw [hf'.defers]
    exact leavesM ms' hf' hq

end Go.Proofs.YteeepkimnpabiaaDoor

namespace Go.Proofs.YteeepkimnpabiaaDoor
open Go
set_option linter.unusedSimpArgs false
set_option linter.unnecessarySimpa false
set_option linter.unusedSectionVars false
set_option linter.unusedVariables false
set_option maxRecDepth 100000

/-! tar_ReadR: pith/tar.Read; temporaries: 0:b 1:b 4:l 5:x 6:err -/
def tar_ReadR.H : Hints := { cut := fun  | _ => none, loop := fun  | _ => ([], 0), order := fun  | _ => [] }
def tar_ReadR.F (x0 : Value) (w : World) (Q : Value → World → Prop) : Prop :=
 pN Tryd.prog (oAlloc 34) w fun x2 w1 =>
 pN Tryd.prog (oAlloc 25) w1 fun x3 w2 =>
 pN Tryd.prog (oAlloc 34) w2 fun x4 w3 =>
 pN Tryd.prog (oCall 23 [x0]) w3 fun x8 w4 =>
 rfW Tryd.prog none [] w4 x8 2 (fun l1 rc1 as1 w5 K1 =>
 pN Tryd.prog (oAlloc 24) w5 fun x5 w8 =>
 pN Tryd.prog (oStore 24 x5 (nthV as1 0)) w8 fun _ w9 =>
 bgW l1 rc1 w9 fun w6 =>
 pN Tryd.prog (oBin .neq 25 (.tmp 11) (.const (.int .i64 0)) (nthV as1 1) (.int .i64 0)) w6 fun x12 w10 =>
 pIf x12
 (pN Tryd.prog (oStore 34 x2 (.slice none 0 0)) w10 fun _ w11 =>
 pN Tryd.prog (oStore 25 x3 (nthV as1 1)) w11 fun _ w12 =>
 enW l1 rc1 (some .ret) K1 w12)
 (pN Tryd.prog (oLoad 34 x4) w10 fun x14 w13 =>
 pN Tryd.prog (oLoad 24 x5) w13 fun x15 w14 =>
 pN Tryd.prog (oBs 34 1 [(0, x15)]) w14 fun x16 w15 =>
 pN Tryd.prog (oBi .append #[34, 34] 34 [false, false] [x14, x16]) w15 fun x17 w16 =>
 pN Tryd.prog (oStore 34 x4 x17) w16 fun _ w17 =>
 enW l1 rc1 none K1 w17))
 (fun mr1 w7 =>
 pN Tryd.prog (oLoad 34 x4) w7 fun x18 w18 =>
 pN Tryd.prog (oStore 34 x2 x18) w18 fun _ w19 =>
 pN Tryd.prog (oStore 25 x3 (.int .i64 0)) w19 fun _ w20 =>
 mkW mr1 w20 fun w21 =>
 pL Tryd.prog (oRes 34 x2) w21 fun r2 =>
 pL Tryd.prog (oRes 25 x3) w21 fun r3 =>
 Q (.tuple #[r2, r3]) w21)
 (fun mr1 w7 =>
 mkW mr1 w7 fun w22 =>
 pL Tryd.prog (oRes 34 x2) w22 fun r2 =>
 pL Tryd.prog (oRes 25 x3) w22 fun r3 =>
 Q (.tuple #[r2, r3]) w22)
 []
noncomputable def tar_ReadR.c : Code := match Tryd.f19.body with | some c => c | none => .skip
theorem tar_ReadR.eq (x0 : Value) (w : World) (Q : Value → World → Prop) : cwR Tryd.prog tar_ReadR.H tar_ReadR.c none (endR Tryd.prog Tryd.f19.results.toList Q) (argsE [x0]) [] w = tar_ReadR.F x0 w Q := by kernel_rfl
theorem tar_ReadR.calls {x0 : Value} {w : World} {Q : Value → World → Prop} (h : tar_ReadR.F x0 w Q) : Calls Tryd.prog 19 #[x0] w (@retP Pan.no Q) :=
  calls_of_cwR (H := tar_ReadR.H) (c := tar_ReadR.c) (args := [x0]) mixed Tryd.func19 (by kernel_rfl) (by kernel_rfl) (Nat.le_of_ble_eq_true (by kernel_rfl)) ((tar_ReadR.eq x0 w Q).mpr h)

/-! tar_Items_c1R: pith/tar.Items$1; temporaries: 0:yield 2:yield 3:left 4:x 5:n 6:err -/
def tar_Items_c1R.H : Hints := { cut := fun  | _ => none, loop := fun | 1 => ([3], 34359738232) | _ => ([], 0), order := fun  | _ => [] }
def tar_Items_c1R.F (x0 : Value) (x1 : Value) (w : World) (Q : Value → World → Prop) : Prop :=
 pN Tryd.prog (oLoad 22 x1) w fun x7 w1 =>
 ∃ (L1 : List Nat → Value → World → Prop) (m1 : Value → World → Nat),
 L1 [] x7 w1 ∧
 ∀ (_k1 : Env) (left3l1 : Value) (ms1 : List Nat) (w2 : World), L1 ms1 left3l1 w2 →
 pN Tryd.prog (oBi .len #[22] 3 [false] [left3l1]) w2 fun x9 w3 =>
 pN Tryd.prog (oBin .geq 3 (.tmp 9) (.const (.int .i64 512)) x9 (.int .i64 512)) w3 fun x10 w4 =>
 pGd (gB x10 true) (pN Tryd.prog (oMv left3l1) w4) w4 fun x12 w5 =>
 pGd (gB x10 true) (pN Tryd.prog (oSl 22 x12 none (some (.int .i64 512)) none) w5) w5 fun x13 w6 =>
 pGd (gB x10 true) (pN Tryd.prog (oCall 32 [x13]) w6) w6 fun x14 w7 =>
 pGd (gB x10 true) (pN Tryd.prog (oUn .not x14) w7) w7 fun x15 w8 =>
 pN Tryd.prog (oPick x10 x15 (.bool false)) w8 fun x16 w9 =>
 pIf x16
 (pN Tryd.prog (oCall 11 [left3l1]) w9 fun x19 w10 =>
 pN Tryd.prog (oExt x19 0) w10 fun x20 w11 =>
 pN Tryd.prog (oExt x19 1) w11 fun x21 w12 =>
 pN Tryd.prog (oExt x19 2) w12 fun x22 w13 =>
 pN Tryd.prog (oAlloc 24) w13 fun x4 w14 =>
 pN Tryd.prog (oStore 24 x4 x20) w14 fun _ w15 =>
 pN Tryd.prog (oLoad 24 x4) w15 fun x24 w16 =>
 pY Tryd.prog (oCallV x0 [x24, x22]) w16 fun x26 w17 =>
 pN Tryd.prog (oUn .not x26) w17 fun x27 w18 =>
 pGd (gB x27 false) (pN Tryd.prog (oMv x22) w18) w18 fun x29 w19 =>
 pGd (gB x27 false) (pN Tryd.prog (oBin .neq 25 (.tmp 29) (.const (.int .i64 0)) x29 (.int .i64 0)) w19) w19 fun x30 w20 =>
 pN Tryd.prog (oPick x27 (.bool true) x30) w20 fun x31 w21 =>
 pIf x31
 (mkW ms1 w21 fun w22 =>
 Q (.tuple #[]) w22)
 (pN Tryd.prog (oSl 22 left3l1 (some x21) none none) w21 fun x34 w23 =>
 (L1 ms1 x34 w23 ∧ m1 x34 w23 < m1 left3l1 w2)))
 (pN Tryd.prog (oBi .len #[22] 3 [false] [left3l1]) w9 fun x37 w24 =>
 pN Tryd.prog (oBin .lss 3 (.tmp 37) (.const (.int .i64 1024)) x37 (.int .i64 1024)) w24 fun x38 w25 =>
 pIf x38
 (pN Tryd.prog (oBuild 24 []) w25 fun x40 w26 =>
 pY Tryd.prog (oCallV x0 [x40, (.int .i64 1)]) w26 fun _ w27 =>
 mkW ms1 w27 fun w28 =>
 Q (.tuple #[]) w28)
 (pN Tryd.prog (oBi .len #[22] 3 [false] [left3l1]) w25 fun x44 w29 =>
 pN Tryd.prog (oBin .gtr 3 (.tmp 44) (.const (.int .i64 1024)) x44 (.int .i64 1024)) w29 fun x45 w30 =>
 pGd (gB x45 false) (pN Tryd.prog (oMv left3l1) w30) w30 fun x47 w31 =>
 pGd (gB x45 false) (pN Tryd.prog (oCall 32 [x47]) w31) w31 fun x48 w32 =>
 pGd (gB x45 false) (pN Tryd.prog (oUn .not x48) w32) w32 fun x49 w33 =>
 pN Tryd.prog (oPick x45 (.bool true) x49) w33 fun x50 w34 =>
 pIf x50
 (pN Tryd.prog (oBuild 24 []) w34 fun x52 w35 =>
 pY Tryd.prog (oCallV x0 [x52, (.int .i64 2)]) w35 fun _ w36 =>
 mkW ms1 w36 fun w37 =>
 Q (.tuple #[]) w37)
 (mkW ms1 w34 fun w38 =>
 Q (.tuple #[]) w38)))
noncomputable def tar_Items_c1R.c : Code := match Tryd.f42.body with | some c => c | none => .skip
theorem tar_Items_c1R.eq (x0 : Value) (x1 : Value) (w : World) (Q : Value → World → Prop) : cwR Tryd.prog tar_Items_c1R.H tar_Items_c1R.c none (endR Tryd.prog Tryd.f42.results.toList Q) (argsE [x0, x1]) [] w = tar_Items_c1R.F x0 x1 w Q := by kernel_rfl
theorem tar_Items_c1R.calls {x0 : Value} {x1 : Value} {w : World} {Q : Value → World → Prop} (h : tar_Items_c1R.F x0 x1 w Q) : Calls Tryd.prog 42 #[x0, x1] w (@retP Pan.no Q) :=
  calls_of_cwR (H := tar_Items_c1R.H) (c := tar_Items_c1R.c) (args := [x0, x1]) mixed Tryd.func42 (by kernel_rfl) (by kernel_rfl) (Nat.le_of_ble_eq_true (by kernel_rfl)) ((tar_Items_c1R.eq x0 x1 w Q).mpr h)

end Go.Proofs.YteeepkimnpabiaaDoor
