/-
  The answers that the statements hold as known; are two items the same; a header whose sum is wrong.
-/
import Derived.Test.YteeepkimnpabiaaDoorTarG
namespace Go.Proofs.YteeepkimnpabiaaDoor
open Go
set_option linter.unusedSimpArgs false
set_option linter.unnecessarySimpa false
set_option linter.unusedSectionVars false
set_option linter.unusedVariables false

namespace A
def hello : List UInt8 := [104, 101, 108, 108, 111]
def itemH (s : Sl) : T_api_Item := ⟨[97], [], 0, 420, 1, (s, hello)⟩
theorem itemH_right (s : Sl) : wrong (itemH s) = 0 := by simp [wrong, itemH, parted, hello]
theorem itemH_bytes (s : Sl) : ((putB (itemH s)).drop 148).take (157 - 148) = [48, 48, 55, 51, 52, 52, 0, 32, 48] := by kernel_rfl
theorem itemH_len (s : Sl) : (putB (itemH s)).length = 1024 := by kernel_rfl
theorem zero_wrong : wrong T_api_Item.zero = 8 := by simp [wrong, T_api_Item.zero, parted]
end A

attribute [local irreducible] oMv oV oU oCall oCallV oBi oBin oUn oLoad oStore oNil oFld oField oIdx oIndex oPick oAlloc oBox oBuild oBs oConv oMk oSl oExt oFn oIface oMap oLook oMapUp oRange oNext oAssert oPanic oRes pN pA pL pDr pIf gA pGd Calls A.made A.header A.oct A.wrong A.padn A.putB
section
variable [Pan] {E w : World} {K Q : Value → World → Prop} {L M : List HA} {l r : List UInt8} {s s2 : Sl}

def same (x y : T_api_Item) : Prop := x.Name = y.Name ∧ x.Link = y.Link ∧ x.Kind = y.Kind ∧ x.Mode = y.Mode ∧ x.Time = y.Time ∧ x.Data.2 = y.Data.2
instance (x y : T_api_Item) : Decidable (same x y) := inferInstanceAs (Decidable (_ ∧ _))

set_option maxHeartbeats 2000000 in
theorem same_ok (x y : T_api_Item) (hS : Sat E w M) [hr : Rds cd_uint8 M x.Data.1 x.Data.2] [hr2 : Rds cd_uint8 M y.Data.1 y.Data.2] (hQ : ∀ w, Sat E w M → Q (.bool (decide (same x y))) w) :
    Calls Tryd.prog 12 #[.agg x.enc.toArray, .agg y.enc.toArray] w (retP Q) := by
  refine pithlaw33_same.calls ?_
  unfold pithlaw33_same.F
  obtain ⟨a1, a2, a3, a4, a5, a6⟩ := x
  obtain ⟨b1, b2, b3, b4, b5, b6⟩ := y
  dsimp only at hr hr2
  simp only [same] at hQ
  by_cases h1 : a1 = b1
  · by_cases h2 : a2 = b2
    · by_cases h3 : a3 = b3
      · by_cases h4 : a4 = b4
        · by_cases h5 : a5 = b5
          · by_cases h6 : a6.2 = b6.2
            · simp only [h1, h2, h3, h4, h5, h6, true_and, and_true, decide_true] at hQ
              repeat' (first | ((first | refine pN_eql_s ?_ ?_ | refine pN_eql_ss ?_ ?_) <;> intro hc <;> try (exfalso; first | omega | exact hc rfl | exact hc (by assumption) | exact absurd hc (by assumption))) | refine pGd_go (by rfl) ?_ | refine pN_l hS (by first | rfl | assumption) ?_ | (refine pN_bx hS (by rfl) ?_; clear hS; intro a w hS) | refine pN_st hS (by first | rfl | omega | simpa only [go_sem] using True.intro | (simp only [go_sem]; omega)) ?_ | refine pN_via (by (intro K; simp (disch := omega) only [go_sem, pN_min, pN_max, w_u32, w_u64, Option.isNone_some, Option.isNone_none]; (try simp only [wrap_u32, wrap_u64]); rfl)) ?_ | fail)
              exact hQ _ hS.to
            · simp only [h1, h2, h3, h4, h5, h6, true_and, and_false, decide_false] at hQ
              repeat' (first | ((first | refine pN_eql_s ?_ ?_ | refine pN_eql_ss ?_ ?_) <;> intro hc <;> try (exfalso; first | omega | exact hc rfl | exact hc (by assumption) | exact absurd hc (by assumption))) | refine pGd_go (by rfl) ?_ | refine pN_l hS (by first | rfl | assumption) ?_ | (refine pN_bx hS (by rfl) ?_; clear hS; intro a w hS) | refine pN_st hS (by first | rfl | omega | simpa only [go_sem] using True.intro | (simp only [go_sem]; omega)) ?_ | refine pN_via (by (intro K; simp (disch := omega) only [go_sem, pN_min, pN_max, w_u32, w_u64, Option.isNone_some, Option.isNone_none]; (try simp only [wrap_u32, wrap_u64]); rfl)) ?_ | fail)
              exact hQ _ hS.to
          · simp only [h5, false_and, and_false, decide_false] at hQ
            repeat' (first | ((first | refine pN_eql_s ?_ ?_ | refine pN_eql_ss ?_ ?_) <;> intro hc <;> try (exfalso; first | omega | exact hc rfl | exact hc (by assumption) | exact absurd hc (by assumption))) | refine pGd_go (by rfl) ?_ | refine pGd_no (by rfl) ?_ | refine pN_l hS (by first | rfl | assumption) ?_ | (refine pN_bx hS (by rfl) ?_; clear hS; intro a w hS) | refine pN_via (by (intro K; simp (disch := omega) only [go_sem, pN_min, pN_max, w_u32, w_u64, Option.isNone_some, Option.isNone_none]; (try simp only [wrap_u32, wrap_u64]); rfl)) ?_ | fail)
            exact hQ _ hS.to
        · simp only [h4, false_and, and_false, decide_false] at hQ
          repeat' (first | ((first | refine pN_eql_s ?_ ?_ | refine pN_eql_ss ?_ ?_) <;> intro hc <;> try (exfalso; first | omega | exact hc rfl | exact hc (by assumption) | exact absurd hc (by assumption))) | refine pGd_go (by rfl) ?_ | refine pGd_no (by rfl) ?_ | refine pN_l hS (by first | rfl | assumption) ?_ | (refine pN_bx hS (by rfl) ?_; clear hS; intro a w hS) | refine pN_via (by (intro K; simp (disch := omega) only [go_sem, pN_min, pN_max, w_u32, w_u64, Option.isNone_some, Option.isNone_none]; (try simp only [wrap_u32, wrap_u64]); rfl)) ?_ | fail)
          exact hQ _ hS.to
      · simp only [h3, false_and, and_false, decide_false] at hQ
        repeat' (first | ((first | refine pN_eql_s ?_ ?_ | refine pN_eql_ss ?_ ?_) <;> intro hc <;> try (exfalso; first | omega | exact hc rfl | exact hc (by assumption) | exact absurd hc (by assumption))) | refine pGd_go (by rfl) ?_ | refine pGd_no (by rfl) ?_ | refine pN_l hS (by first | rfl | assumption) ?_ | (refine pN_bx hS (by rfl) ?_; clear hS; intro a w hS) | refine pN_via (by (intro K; simp (disch := omega) only [go_sem, pN_min, pN_max, w_u32, w_u64, Option.isNone_some, Option.isNone_none]; (try simp only [wrap_u32, wrap_u64]); rfl)) ?_ | fail)
        exact hQ _ hS.to
    · simp only [h2, false_and, and_false, decide_false] at hQ
      repeat' (first | (refine pN_eql_ss ?_ ?_ <;> intro hc <;> try (exfalso; first | omega | exact hc rfl | exact hc (by assumption) | exact absurd hc (by assumption))) | refine pGd_go (by rfl) ?_ | refine pGd_no (by rfl) ?_ | refine pN_l hS (by first | rfl | assumption) ?_ | (refine pN_bx hS (by rfl) ?_; clear hS; intro a w hS) | refine pN_via (by (intro K; simp (disch := omega) only [go_sem, pN_min, pN_max, w_u32, w_u64, Option.isNone_some, Option.isNone_none]; (try simp only [wrap_u32, wrap_u64]); rfl)) ?_ | fail)
      exact hQ _ hS.to
  · simp only [h1, false_and, decide_false] at hQ
    repeat' (first | (refine pN_eql_ss ?_ ?_ <;> intro hc <;> try (exfalso; first | omega | exact hc rfl | exact hc (by assumption) | exact absurd hc (by assumption))) | refine pGd_no (by rfl) ?_ | refine pN_l hS (by first | rfl | assumption) ?_ | (refine pN_bx hS (by rfl) ?_; clear hS; intro a w hS) | refine pN_via (by (intro K; simp (disch := omega) only [go_sem, pN_min, pN_max, w_u32, w_u64, Option.isNone_some, Option.isNone_none]; (try simp only [wrap_u32, wrap_u64]); rfl)) ?_ | fail)
    exact hQ _ hS.to

theorem Write_nil (hS : Sat E w M) (hQ : ∀ s w, Sat E w (rows cd_uint8 s (List.replicate 1024 0) :: M) → Q (.tuple #[.slice s.a 1024 s.c, .int .i64 0]) w) :
    Calls Tryd.prog 15 #[.slice none 0 0] w (retP Q) := by
  refine tar_Write.calls ?_
  unfold tar_Write.F
  repeat' (first | refine pN_via (by (intro K; simp (disch := omega) only [go_sem, pN_min, pN_max, w_u32, w_u64, Option.isNone_some, Option.isNone_none]; (try simp only [wrap_u32, wrap_u64]); rfl)) ?_ | fail)
  refine ⟨fun v i w' => v = .slice none 0 0 ∧ i = .int .i64 0 ∧ Sat E w' M, fun _ _ _ => 0, ⟨rfl, rfl, hS⟩, ?_⟩
  clear hS
  rintro _ _ _ w ⟨rfl, rfl, hS⟩
  repeat' (first | (refine pN_lss_s ?_ ?_ <;> intro hc <;> try (exfalso; omega)) | refine pIf_f ?_ | fail)
  have hS : Sat E w (rows cd_uint8 ⟨none, 0⟩ [] :: M) := hS.nil 5 1
  refine pN_appz (C := cd_uint8) (s := ⟨none, 0⟩) (l := []) hS 1024 rfl rfl (by decide) ?_
  clear hS
  intro s w hS
  have hz : cd_uint8.zero = 0 := rfl
  rw [List.nil_append, hz] at hS ⊢
  rw [List.length_replicate]
  exact hQ _ _ hS

set_option maxHeartbeats 2000000 in
theorem known_ok (hS : Sat E w M) (hQ : ∀ w, Sat E w M → Q (.bool true) w) : Calls Tryd.prog 10 #[] w (retP Q) := by
  refine pithlaw33_known.calls ?_
  unfold pithlaw33_known.F
  refine pN_bl (C := cd_uint8) [bv 104, bv 101, bv 108, bv 108, bv 111] A.hello rfl rfl rfl (Nat.le_of_ble_eq_true rfl) hS (Nat.le_of_ble_eq_true rfl) ?_
  clear hS
  intro s0 w hS
  refine pN_mks (C := cd_uint8) (l := A.hello) hS (by decide) Tryd.underlying5 rfl ?_
  clear hS
  intro w hS
  repeat' (first | refine pN_via (by (intro K; simp (disch := omega) only [go_sem, pN_min, pN_max, w_u32, w_u64, Option.isNone_some, Option.isNone_none]; (try simp only [wrap_u32, wrap_u64]); rfl)) ?_ | fail)
  haveI hr0 : Rds cd_uint8 (rowM cd_uint8 s0 A.hello :: M) (A.itemH s0).Data.1 (A.itemH s0).Data.2 := (inferInstance : Rds cd_uint8 (rowM cd_uint8 s0 A.hello :: M) s0 A.hello)
  refine pc_tar_Put (Put_ok (A.itemH s0) (by show 1 ≤ _; omega) (Nat.zero_le _) hS (fun h => absurd (A.itemH_right s0) h) fun _ s1 w hS => ?_)
  have hb1 := A.itemH_bytes s0
  have hb2 := A.itemH_len s0
  generalize A.putB (A.itemH s0) = pb at *
  repeat' (first | refine pN_via (by (intro K; simp (disch := omega) only [go_sem, pN_min, pN_max, w_u32, w_u64, Option.isNone_some, Option.isNone_none]; (try simp only [wrap_u32, wrap_u64]); rfl)) ?_ | fail)
  refine pc_tar_Write (Write_nil hS fun s2 w hS => ?_)
  have hl2 : (List.replicate 1024 (0 : UInt8)).length = 1024 := List.length_replicate
  generalize hzs : List.replicate 1024 (0 : UInt8) = zs at *
  rw [← hl2]
  repeat' (first | refine pN_via (by (intro K; simp (disch := omega) only [go_sem, pN_min, pN_max, w_u32, w_u64, Option.isNone_some, Option.isNone_none]; (try simp only [wrap_u32, wrap_u64]); rfl)) ?_ | fail)
  haveI hr1 : Rds cd_uint8 (rows cd_uint8 s2 zs :: rows cd_uint8 s1 pb :: rowM cd_uint8 s0 A.hello :: M) T_api_Item.zero.Data.1 T_api_Item.zero.Data.2 := Rds.nil
  refine pc_tar_Put (Put_ok T_api_Item.zero (Nat.zero_le _) (Nat.zero_le _) hS (fun _ w hS => ?_) fun h => absurd h (by rw [A.zero_wrong]; decide))
  rw [A.zero_wrong]
  have hz : cd_uint8.zero = 0 := rfl
  have hzs0 : List.replicate 1024 cd_uint8.zero = zs := by rw [hz]; exact hzs
  repeat' (first | (refine pc_pithlaw33_num (num_ok _ ?_)) | (refine pN_mk (C := cd_uint8) hS 1024 rfl (by decide) ?_; clear hS; intro s3 w hS; rw [hzs0] at hS) | (refine pA_sl2w (C := cd_uint8) (s := s1) (l := pb) hS 148 157 rfl rfl rfl (by omega) (by omega) ?_; intro hp; rw [hb1] at hp) | ((first | refine pA_eql_s ?_ ?_ | refine pA_eql_ss ?_ ?_) <;> intro hc <;> try (exfalso; first | omega | exact hc rfl | exact hc (by assumption) | exact absurd hc (by assumption))) | refine gA_go (by rfl) ?_ | refine pGd_go (by rfl) ?_ | (refine pDr_go hS ?_; clear hS; intro w hS) | refine ⟨trivial, ?_⟩ | refine ⟨⟨(by first | exact run_l hS (by first | rfl | assumption) | exact run_st hS (by first | rfl | omega) | exact run_ld1 ha hS | exact fun _ => run_l hS (by rfl) | exact fun _ => run_st hS (by first | rfl | omega) | exact fun _ => run_ld1 ha hS | exact fun h => Bool.noConfusion h), trivial⟩, ?_⟩ | refine pL_st hS (by first | rfl | omega | simpa only [go_sem] using True.intro | (simp only [go_sem]; omega)) ?_ | refine pN_via (by (intro K; simp (disch := omega) only [go_sem, pN_min, pN_max, w_u32, w_u64, Option.isNone_some, Option.isNone_none]; (try simp only [wrap_u32, wrap_u64]); rfl)) ?_ | refine pA_via (by (intro K; simp (disch := omega) only [go_sem, pN_min, pN_max, w_u32, w_u64, Option.isNone_some, Option.isNone_none]; (try simp only [wrap_u32, wrap_u64]); rfl)) ?_ | fail)
  exact hQ _ hS.to

set_option maxHeartbeats 2000000 in
theorem Get_sum (hS : Sat E w M) [hr : Rds cd_uint8 M s l] (hl : 512 ≤ l.length) (hl2 : l.length ≤ 140737488355328) (hne : (l.drop 148).take (156 - 148) ≠ A.sumField l) (hQ : ∀ w, Sat E w M → Q (.tuple #[.agg T_api_Item.zero.enc.toArray, .int .i64 0, .int .i64 3]) w) :
    Calls Tryd.prog 11 #[.slice s.a l.length s.c] w (retP Q) := by
  refine tar_Get.calls ?_
  unfold tar_Get.F
  have hl8 : ((l.drop 148).take (156 - 148)).length = 156 - 148 := by rw [List.length_take, List.length_drop]; omega
  have hf8 := sumField_len l
  repeat' (first | (refine pN_lss_s ?_ ?_ <;> intro hc <;> try (exfalso; omega)) | refine pIf_f ?_ | (refine pDr_go hS ?_; clear hS; intro w hS) | (refine pN_nz hS ?_; clear hS; intro a w hS) | refine pN_via (by (intro K; simp (disch := omega) only [go_sem, pN_min, pN_max, w_u32, w_u64, Option.isNone_some, Option.isNone_none]; (try simp only [wrap_u32, wrap_u64]); rfl)) ?_ | fail)
  refine pA_sl2w (C := cd_uint8) (s := s) (l := l) hS 148 156 rfl rfl rfl (by omega) (by omega) ?_
  intro hp
  generalize (l.drop 148).take (156 - 148) = t at *
  rw [← hl8]
  refine pc_tar_sum (sum_ok (l := l) hS hl hl2 fun s2 w hS => ?_)
  rw [← hf8]
  refine ⟨trivial, ?_⟩
  refine pc_bytes_Equal (Equal_ok (l := t) (r := A.sumField l) (s := s.sub 148 cd_uint8.size) (s2 := s2) hS ?_)
  rw [decide_eq_false hne]
  refine ⟨trivial, ?_⟩
  repeat' (first | refine pIf_t ?_ | refine pL_ra hS (by rfl) ?_ | (refine pN_sa hS (by rfl) (by rfl) (by rfl) ?_; clear hS; intro w hS; try dsimp only at hS) | refine pN_via (by (intro K; simp (disch := omega) only [go_sem, pN_min, pN_max, w_u32, w_u64, Option.isNone_some, Option.isNone_none]; (try simp only [wrap_u32, wrap_u64]); rfl)) ?_ | refine pA_via (by (intro K; simp (disch := omega) only [go_sem, pN_min, pN_max, w_u32, w_u64, Option.isNone_some, Option.isNone_none]; (try simp only [wrap_u32, wrap_u64]); rfl)) ?_ | fail)
  exact hQ _ hS.to
end

end Go.Proofs.YteeepkimnpabiaaDoor
