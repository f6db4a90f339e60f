/-
  Package state.
-/
import Derived.Test.YtbgnnjfpiblkmaaDoorLfState
import Derived.Test.YtbgnnjfpiblkmaaDoorZSt
import Derived.Test.YtbgnnjfpiblkmaaDoorArr
import Derived.Test.YtbgnnjfpiblkmaaDoorBitsLen
namespace Go.Proofs.YtbgnnjfpiblkmaaDoor
open Go
set_option linter.unusedSimpArgs false
set_option linter.unnecessarySimpa false
set_option linter.unusedSectionVars false
set_option linter.unusedVariables false
attribute [local irreducible] oMv oV oU oCall oCallV oBi oBin oUn oLoad oStore oNil oFld oField oIdx oIndex oPick oAlloc oBox oBuild oBs oConv oMk oSl oExt oFn oIface oMap oLook oMapUp oRange oNext oEntry oInv oAssert oPanic oRes pN pA pL pDr pIf gA pGd

instance ar_reps : Ar Tryd.prog 58 4 := ⟨_, Tryd.underlying58, Tryd.sizeOf3, Tryd.isAgg3⟩

theorem two_le' {a b : Nat} (h : a ≤ b) : (2 : Int) ^ a ≤ 2 ^ b := by exact_mod_cast Nat.pow_le_pow_right (by omega) h
theorem or_2_0 : (IntKind.i64.wrap ((BitVec.ofInt IntKind.i64.bits 2 ||| BitVec.ofInt IntKind.i64.bits 0).toNat)) = 2 := by decide +kernel
theorem or_2_1 : (IntKind.i64.wrap ((BitVec.ofInt IntKind.i64.bits 2 ||| BitVec.ofInt IntKind.i64.bits 1).toNat)) = 3 := by decide +kernel

section
variable {E w W : World} {M N : List HA} {Q : Value → World → Prop} {s : Z.St} {y : Z.Y}

theorem isDist_ok (d : Int) (hQ : Q (.bool (decide (Z.isDist d))) w) : Calls Tryd.prog 46 #[.int .i64 d] w (retP Q) := by
  refine state_isDist.calls ?_
  unfold state_isDist.F
  repeat' (first | ((first | refine pN_leq_s ?_ ?_ | refine pN_geq_s ?_ ?_) <;> intro hc <;> try (exfalso; omega)) | refine pGd_go (by rfl) ?_ | refine pGd_no (by rfl) ?_ | refine pN_via (by (intro K; simp (disch := omega) only [go_sem, pN_min, pN_max, w_u32, w_u64, Option.isNone_some, Option.isNone_none]; (try simp only [wrap_u32, wrap_u64]); rfl)) ?_ | fail)
  · rw [decide_eq_true (show Z.isDist d from ⟨by omega, by omega⟩)] at hQ; exact hQ
  · rw [decide_eq_false (show ¬ Z.isDist d from fun h => by unfold Z.isDist at h; omega)] at hQ; exact hQ
  · rw [decide_eq_false (show ¬ Z.isDist d from fun h => by unfold Z.isDist at h; omega)] at hQ; exact hQ

theorem isLen_ok (d : Int) (hQ : Q (.bool (decide (Z.isLen d))) w) : Calls Tryd.prog 45 #[.int .i64 d] w (retP Q) := by
  refine state_isLen.calls ?_
  unfold state_isLen.F
  repeat' (first | ((first | refine pN_leq_s ?_ ?_ | refine pN_geq_s ?_ ?_) <;> intro hc <;> try (exfalso; omega)) | refine pGd_go (by rfl) ?_ | refine pGd_no (by rfl) ?_ | refine pN_via (by (intro K; simp (disch := omega) only [go_sem, pN_min, pN_max, w_u32, w_u64, Option.isNone_some, Option.isNone_none]; (try simp only [wrap_u32, wrap_u64]); rfl)) ?_ | fail)
  · rw [decide_eq_true (show Z.isLen d from ⟨by omega, by omega⟩)] at hQ; exact hQ
  · rw [decide_eq_false (show ¬ Z.isLen d from fun h => by unfold Z.isLen at h; omega)] at hQ; exact hQ
  · rw [decide_eq_false (show ¬ Z.isLen d from fun h => by unfold Z.isLen at h; omega)] at hQ; exact hQ

theorem right_ok (hS : Sat E w M) (hr : s.Right) (hQ : ∀ w, Sat E w M → Q (.bool true) w) : Calls Tryd.prog 44 #[.agg #[.int .i64 s.num, .int .i64 s.r0, .int .i64 s.r1, .int .i64 s.r2, .int .i64 s.r3]] w (retP Q) := by
  refine state_State_right.calls ?_
  unfold state_State_right.F
  have hn := hr.num
  repeat' (first | (refine pN_bx hS (by rfl) ?_; clear hS; intro a w hS) | refine pN_via (by (intro K; simp (disch := omega) only [go_sem, pN_min, pN_max, w_u32, w_u64, Option.isNone_some, Option.isNone_none]; (try simp only [wrap_u32, wrap_u64]); rfl)) ?_ | fail)
  refine pN_la_at hS [.int .i64 s.r0, .int .i64 s.r1, .int .i64 s.r2, .int .i64 s.r3] rfl rfl ?_
  refine ⟨fun v w => ∃ i : Nat, v = .int .i64 i ∧ i ≤ 4 ∧ Sat E w (cel a ⟨60, [.int .i64 s.num, .int .i64 s.r0, .int .i64 s.r1, .int .i64 s.r2, .int .i64 s.r3]⟩ :: M), fun v _ => 4 - (RowKit.intOf v).toNat, ⟨0, rfl, by omega, hS⟩, ?_⟩
  clear hS
  rintro _ _ w ⟨i, rfl, hi, hS⟩
  have d0 : decide (Z.isDist s.r0) = true := decide_eq_true hr.d0
  have d1 : decide (Z.isDist s.r1) = true := decide_eq_true hr.d1
  have d2 : decide (Z.isDist s.r2) = true := decide_eq_true hr.d2
  have d3 : decide (Z.isDist s.r3) = true := decide_eq_true hr.d3
  have h4 : i = 0 ∨ i = 1 ∨ i = 2 ∨ i = 3 ∨ i = 4 := by omega
  rcases h4 with rfl | rfl | rfl | rfl | rfl
  · repeat' (first | refine pN_aix _ (by first | rfl | omega) (by omega) (by rfl) ?_ | (refine pc_state_isDist (isDist_ok _ ?_); first | rw [d0] | rw [d1] | rw [d2] | rw [d3]) | (refine pN_lss_s ?_ ?_ <;> intro hc <;> try (exfalso; omega)) | refine pIf_t ?_ | refine pIf_f ?_ | refine pN_via (by (intro K; simp (disch := omega) only [go_sem, pN_min, pN_max, w_u32, w_u64, Option.isNone_some, Option.isNone_none]; (try simp only [wrap_u32, wrap_u64]); rfl)) ?_ | fail)
    exact ⟨⟨1, rfl, by omega, hS⟩, by simp [RowKit.intOf]⟩
  · repeat' (first | refine pN_aix _ (by first | rfl | omega) (by omega) (by rfl) ?_ | (refine pc_state_isDist (isDist_ok _ ?_); first | rw [d0] | rw [d1] | rw [d2] | rw [d3]) | (refine pN_lss_s ?_ ?_ <;> intro hc <;> try (exfalso; omega)) | refine pIf_t ?_ | refine pIf_f ?_ | refine pN_via (by (intro K; simp (disch := omega) only [go_sem, pN_min, pN_max, w_u32, w_u64, Option.isNone_some, Option.isNone_none]; (try simp only [wrap_u32, wrap_u64]); rfl)) ?_ | fail)
    exact ⟨⟨2, rfl, by omega, hS⟩, by simp [RowKit.intOf]⟩
  · repeat' (first | refine pN_aix _ (by first | rfl | omega) (by omega) (by rfl) ?_ | (refine pc_state_isDist (isDist_ok _ ?_); first | rw [d0] | rw [d1] | rw [d2] | rw [d3]) | (refine pN_lss_s ?_ ?_ <;> intro hc <;> try (exfalso; omega)) | refine pIf_t ?_ | refine pIf_f ?_ | refine pN_via (by (intro K; simp (disch := omega) only [go_sem, pN_min, pN_max, w_u32, w_u64, Option.isNone_some, Option.isNone_none]; (try simp only [wrap_u32, wrap_u64]); rfl)) ?_ | fail)
    exact ⟨⟨3, rfl, by omega, hS⟩, by simp [RowKit.intOf]⟩
  · repeat' (first | refine pN_aix _ (by first | rfl | omega) (by omega) (by rfl) ?_ | (refine pc_state_isDist (isDist_ok _ ?_); first | rw [d0] | rw [d1] | rw [d2] | rw [d3]) | (refine pN_lss_s ?_ ?_ <;> intro hc <;> try (exfalso; omega)) | refine pIf_t ?_ | refine pIf_f ?_ | refine pN_via (by (intro K; simp (disch := omega) only [go_sem, pN_min, pN_max, w_u32, w_u64, Option.isNone_some, Option.isNone_none]; (try simp only [wrap_u32, wrap_u64]); rfl)) ?_ | fail)
    exact ⟨⟨4, rfl, by omega, hS⟩, by simp [RowKit.intOf]⟩
  · repeat' (first | ((first | refine pN_lss_s ?_ ?_ | refine pN_geq_s ?_ ?_) <;> intro hc <;> try (exfalso; omega)) | refine pIf_f ?_ | refine pGd_go (by rfl) ?_ | refine pN_l hS (by first | rfl | assumption) ?_ | refine pN_via (by (intro K; simp (disch := omega) only [go_sem, pN_min, pN_max, w_u32, w_u64, Option.isNone_some, Option.isNone_none]; (try simp only [wrap_u32, wrap_u64]); rfl)) ?_ | fail)
    exact hQ _ hS.to

theorem pN_glo {a : Addr} {v : Value} {t : TypeId} [Sc Tryd.prog t] {K : Value → World → Prop} (hS : Sat E w M) [h : Has (old W) M N] (hc : W.cell? a = some v) (hk : K v w) : pN Tryd.prog (oLoad t (.pointer (some a))) w K :=
  pN_ld Sc.na (Glo.up (W := W) hS hc) hk

set_option maxHeartbeats 1600000 in
theorem Next_in (hG : Glo W) (hS : Sat E w M) [h : Has (old W) M N] (hr : s.Right) (hy : Z.errY y = 0) (hQ : ∀ w, Sat E w M → Q (.tuple #[.agg (s.next y).cells.toArray, .int .i64 0]) w) :
    Calls Tryd.prog 31 #[.agg #[.int .i64 s.num, .int .i64 s.r0, .int .i64 s.r1, .int .i64 s.r2, .int .i64 s.r3], .agg #[.int .i64 y.Kind, bv y.Byte, .int .i64 y.Len, .int .i64 y.Dist]] w (retP Q) := by
  refine state_State_Next.calls ?_
  unfold state_State_Next.F
  have hn := hr.num
  obtain ⟨n, hn2⟩ : ∃ n : Nat, s.num = n := ⟨s.num.toNat, by omega⟩
  have e1 : (s.num).toNat = n := by omega
  have g1 := hG.lit n (by omega)
  have g2 := hG.mat n (by omega)
  have g3 := hG.rep n (by omega)
  have g4 := hG.sht n (by omega)
  rw [← hn2, ← e1] at g1 g2 g3 g4
  clear e1 hn2
  refine pN_bx hS (by rfl) fun x2 w hS => ?_
  refine pN_bx hS (by rfl) fun x3 w hS => ?_
  refine pN_nz hS fun x4 w hS => ?_
  refine pN_la hS (by rfl) ?_
  refine pc_state_State_right (right_ok hS hr fun w hS => ?_)
  repeat' (first | refine pIf_f ?_ | refine pN_via (by (intro K; simp (disch := omega) only [go_sem, pN_min, pN_max, w_u32, w_u64, Option.isNone_some, Option.isNone_none]; (try simp only [wrap_u32, wrap_u64]); rfl)) ?_ | fail)
  refine ⟨fun w => Sat E w (cel x4 ⟨60, [.int .i64 0, .int .i64 0, .int .i64 0, .int .i64 0, .int .i64 0]⟩ :: cel x3 ⟨34, [.int .i64 y.Kind, bv y.Byte, .int .i64 y.Len, .int .i64 y.Dist]⟩ :: cel x2 ⟨60, (s.next y).cells⟩ :: M), ?_, ?_⟩
  · have hk : y.Kind = 1 ∨ y.Kind = 4 ∨ y.Kind = 2 ∨ y.Kind = 3 := by
      unfold Z.errY at hy
      by_cases h1 : y.Kind = 1 ∨ y.Kind = 4
      · rcases h1 with h1 | h1 <;> simp [h1]
      · rw [if_neg h1] at hy
        by_cases h2 : y.Kind = 2
        · simp [h2]
        · rw [if_neg h2] at hy
          by_cases h3 : y.Kind = 3
          · simp [h3]
          · rw [if_neg h3] at hy; omega
    obtain ⟨k, b, l, d⟩ := y
    simp only at hk
    rcases hk with rfl | rfl | rfl | rfl
    all_goals dsimp only at hS ⊢
    · repeat' (first | refine pN_glo hS g1 ?_ | (refine pN_eql_s ?_ ?_ <;> intro hc <;> try (exfalso; first | omega | exact hc rfl | exact hc (by assumption) | exact absurd hc (by assumption))) | refine pIf_t ?_ | refine pN_l hS (by first | rfl | assumption) ?_ | (refine pN_s hS (by first | exact Nat.le_of_ble_eq_true rfl | assumption) (by rfl) ?_; clear hS; intro w hS; try simp only [List.set_cons_zero, List.set_cons_succ] at hS) | refine pN_via (by (intro K; simp (disch := omega) only [go_sem, pN_min, pN_max, w_u32, w_u64, Option.isNone_some, Option.isNone_none]; (try simp only [wrap_u32, wrap_u64]); rfl)) ?_ | fail)
      exact (show Sat E w (cel x2 ⟨60, (s.next ⟨1, b, l, d⟩).cells⟩ :: cel x4 _ :: cel x3 _ :: M) from hS).to
    · repeat' (first | refine pN_glo hS g4 ?_ | (refine pN_eql_s ?_ ?_ <;> intro hc <;> try (exfalso; first | omega | exact hc rfl | exact hc (by assumption) | exact absurd hc (by assumption))) | refine pIf_t ?_ | refine pIf_f ?_ | refine pN_l hS (by first | rfl | assumption) ?_ | (refine pN_s hS (by first | exact Nat.le_of_ble_eq_true rfl | assumption) (by rfl) ?_; clear hS; intro w hS; try simp only [List.set_cons_zero, List.set_cons_succ] at hS) | refine pN_via (by (intro K; simp (disch := omega) only [go_sem, pN_min, pN_max, w_u32, w_u64, Option.isNone_some, Option.isNone_none]; (try simp only [wrap_u32, wrap_u64]); rfl)) ?_ | fail)
      exact (show Sat E w (cel x2 ⟨60, (s.next ⟨4, b, l, d⟩).cells⟩ :: cel x4 _ :: cel x3 _ :: M) from hS).to
    · have hl : Z.isLen l ∧ Z.isDist d := by
        by_cases h : Z.isLen l ∧ Z.isDist d
        · exact h
        · simp [Z.errY, h] at hy
      have l0 : decide (Z.isLen l) = true := decide_eq_true hl.1
      have d0 : decide (Z.isDist d) = true := decide_eq_true hl.2
      repeat' (first | refine pN_glo hS g2 ?_ | (refine pc_state_isLen (isLen_ok _ ?_); rw [l0]) | (refine pc_state_isDist (isDist_ok _ ?_); rw [d0]) | (refine pN_sa_at hS (by rfl) (Nat.le_of_ble_eq_true rfl) (by rfl) ?_; clear hS; intro w hS) | (refine pN_eql_s ?_ ?_ <;> intro hc <;> try (exfalso; first | omega | exact hc rfl | exact hc (by assumption) | exact absurd hc (by assumption))) | refine pIf_t ?_ | refine pIf_f ?_ | refine pGd_go (by rfl) ?_ | refine pN_l hS (by first | rfl | assumption) ?_ | (refine pN_s hS (by first | exact Nat.le_of_ble_eq_true rfl | assumption) (by rfl) ?_; clear hS; intro w hS; try simp only [List.set_cons_zero, List.set_cons_succ] at hS) | refine pN_via (by (intro K; simp (disch := omega) only [go_sem, pN_min, pN_max, w_u32, w_u64, Option.isNone_some, Option.isNone_none]; (try simp only [wrap_u32, wrap_u64]); rfl)) ?_ | fail)
      exact (show Sat E w (cel x2 ⟨60, (s.next ⟨2, b, l, d⟩).cells⟩ :: cel x4 _ :: cel x3 _ :: M) from hS).to
    · have hl : Z.isLen l ∧ 0 ≤ d ∧ d ≤ 3 := by
        by_cases h : Z.isLen l ∧ 0 ≤ d ∧ d ≤ 3
        · exact h
        · simp [Z.errY, h] at hy
      have l0 : decide (Z.isLen l) = true := decide_eq_true hl.1
      have h4 : d = 0 ∨ d = 1 ∨ d = 2 ∨ d = 3 := by omega
      rcases h4 with rfl | rfl | rfl | rfl
      · repeat' (first | refine pN_glo hS g3 ?_ | (refine pc_state_isLen (isLen_ok _ ?_); rw [l0]) | refine pA_aslo 1 rfl (by decide) ?_ | refine pA_ashi _ (by rfl) (by decide) (by decide) ?_ | (refine pN_cpc hS st_sl_int _ (by rfl) (by rfl) (by rfl) (Nat.le_of_ble_eq_true rfl) ?_; clear hS; intro w hS) | ((first | refine pN_lss_s ?_ ?_ | refine pN_gtr_s ?_ ?_) <;> intro hc <;> try (exfalso; omega)) | (refine pN_eql_s ?_ ?_ <;> intro hc <;> try (exfalso; first | omega | exact hc rfl | exact hc (by assumption) | exact absurd hc (by assumption))) | refine pIf_t ?_ | refine pIf_f ?_ | refine pGd_go (by rfl) ?_ | refine pN_l hS (by first | rfl | assumption) ?_ | refine pL_l hS (by first | rfl | assumption) ?_ | (refine pN_s hS (by first | exact Nat.le_of_ble_eq_true rfl | assumption) (by rfl) ?_; clear hS; intro w hS; try simp only [List.set_cons_zero, List.set_cons_succ] at hS) | (refine pDr_go hS ?_; clear hS; intro w hS) | refine ⟨trivial, ?_⟩ | refine pN_via (by (intro K; simp (disch := omega) only [go_sem, pN_min, pN_max, w_u32, w_u64, Option.isNone_some, Option.isNone_none]; (try simp only [wrap_u32, wrap_u64]); rfl)) ?_ | refine pA_via (by (intro K; simp (disch := omega) only [go_sem, pN_min, pN_max, w_u32, w_u64, Option.isNone_some, Option.isNone_none]; (try simp only [wrap_u32, wrap_u64]); rfl)) ?_ | fail)
        exact (show Sat E w (cel x2 ⟨60, (s.next ⟨3, b, l, 0⟩).cells⟩ :: cel x4 _ :: cel x3 _ :: M) from hS).to
      · repeat' (first | refine pN_glo hS g3 ?_ | (refine pc_state_isLen (isLen_ok _ ?_); rw [l0]) | refine pA_aslo 1 rfl (by decide) ?_ | refine pA_ashi _ (by rfl) (by decide) (by decide) ?_ | (refine pN_cpc hS st_sl_int _ (by rfl) (by rfl) (by rfl) (Nat.le_of_ble_eq_true rfl) ?_; clear hS; intro w hS) | ((first | refine pN_lss_s ?_ ?_ | refine pN_gtr_s ?_ ?_) <;> intro hc <;> try (exfalso; omega)) | (refine pN_eql_s ?_ ?_ <;> intro hc <;> try (exfalso; first | omega | exact hc rfl | exact hc (by assumption) | exact absurd hc (by assumption))) | refine pIf_t ?_ | refine pIf_f ?_ | refine pGd_go (by rfl) ?_ | refine pN_l hS (by first | rfl | assumption) ?_ | refine pL_l hS (by first | rfl | assumption) ?_ | (refine pN_s hS (by first | exact Nat.le_of_ble_eq_true rfl | assumption) (by rfl) ?_; clear hS; intro w hS; try simp only [List.set_cons_zero, List.set_cons_succ] at hS) | (refine pDr_go hS ?_; clear hS; intro w hS) | refine ⟨trivial, ?_⟩ | refine pN_via (by (intro K; simp (disch := omega) only [go_sem, pN_min, pN_max, w_u32, w_u64, Option.isNone_some, Option.isNone_none]; (try simp only [wrap_u32, wrap_u64]); rfl)) ?_ | refine pA_via (by (intro K; simp (disch := omega) only [go_sem, pN_min, pN_max, w_u32, w_u64, Option.isNone_some, Option.isNone_none]; (try simp only [wrap_u32, wrap_u64]); rfl)) ?_ | fail)
        exact (show Sat E w (cel x2 ⟨60, (s.next ⟨3, b, l, 1⟩).cells⟩ :: cel x4 _ :: cel x3 _ :: M) from hS).to
      · repeat' (first | refine pN_glo hS g3 ?_ | (refine pc_state_isLen (isLen_ok _ ?_); rw [l0]) | refine pA_aslo 1 rfl (by decide) ?_ | refine pA_ashi _ (by rfl) (by decide) (by decide) ?_ | (refine pN_cpc hS st_sl_int _ (by rfl) (by rfl) (by rfl) (Nat.le_of_ble_eq_true rfl) ?_; clear hS; intro w hS) | ((first | refine pN_lss_s ?_ ?_ | refine pN_gtr_s ?_ ?_) <;> intro hc <;> try (exfalso; omega)) | (refine pN_eql_s ?_ ?_ <;> intro hc <;> try (exfalso; first | omega | exact hc rfl | exact hc (by assumption) | exact absurd hc (by assumption))) | refine pIf_t ?_ | refine pIf_f ?_ | refine pGd_go (by rfl) ?_ | refine pN_l hS (by first | rfl | assumption) ?_ | refine pL_l hS (by first | rfl | assumption) ?_ | (refine pN_s hS (by first | exact Nat.le_of_ble_eq_true rfl | assumption) (by rfl) ?_; clear hS; intro w hS; try simp only [List.set_cons_zero, List.set_cons_succ] at hS) | (refine pDr_go hS ?_; clear hS; intro w hS) | refine ⟨trivial, ?_⟩ | refine pN_via (by (intro K; simp (disch := omega) only [go_sem, pN_min, pN_max, w_u32, w_u64, Option.isNone_some, Option.isNone_none]; (try simp only [wrap_u32, wrap_u64]); rfl)) ?_ | refine pA_via (by (intro K; simp (disch := omega) only [go_sem, pN_min, pN_max, w_u32, w_u64, Option.isNone_some, Option.isNone_none]; (try simp only [wrap_u32, wrap_u64]); rfl)) ?_ | fail)
        exact (show Sat E w (cel x2 ⟨60, (s.next ⟨3, b, l, 2⟩).cells⟩ :: cel x4 _ :: cel x3 _ :: M) from hS).to
      · repeat' (first | refine pN_glo hS g3 ?_ | (refine pc_state_isLen (isLen_ok _ ?_); rw [l0]) | refine pA_aslo 1 rfl (by decide) ?_ | refine pA_ashi _ (by rfl) (by decide) (by decide) ?_ | (refine pN_cpc hS st_sl_int _ (by rfl) (by rfl) (by rfl) (Nat.le_of_ble_eq_true rfl) ?_; clear hS; intro w hS) | ((first | refine pN_lss_s ?_ ?_ | refine pN_gtr_s ?_ ?_) <;> intro hc <;> try (exfalso; omega)) | (refine pN_eql_s ?_ ?_ <;> intro hc <;> try (exfalso; first | omega | exact hc rfl | exact hc (by assumption) | exact absurd hc (by assumption))) | refine pIf_t ?_ | refine pIf_f ?_ | refine pGd_go (by rfl) ?_ | refine pN_l hS (by first | rfl | assumption) ?_ | refine pL_l hS (by first | rfl | assumption) ?_ | (refine pN_s hS (by first | exact Nat.le_of_ble_eq_true rfl | assumption) (by rfl) ?_; clear hS; intro w hS; try simp only [List.set_cons_zero, List.set_cons_succ] at hS) | (refine pDr_go hS ?_; clear hS; intro w hS) | refine ⟨trivial, ?_⟩ | refine pN_via (by (intro K; simp (disch := omega) only [go_sem, pN_min, pN_max, w_u32, w_u64, Option.isNone_some, Option.isNone_none]; (try simp only [wrap_u32, wrap_u64]); rfl)) ?_ | refine pA_via (by (intro K; simp (disch := omega) only [go_sem, pN_min, pN_max, w_u32, w_u64, Option.isNone_some, Option.isNone_none]; (try simp only [wrap_u32, wrap_u64]); rfl)) ?_ | fail)
        exact (show Sat E w (cel x2 ⟨60, (s.next ⟨3, b, l, 3⟩).cells⟩ :: cel x4 _ :: cel x3 _ :: M) from hS).to
  · rintro _ w hS
    repeat' (first | refine pN_la hS (by rfl) ?_ | refine pL_ra hS (by rfl) ?_ | (refine pN_sa hS (by rfl) (by rfl) (by rfl) ?_; clear hS; intro w hS; try dsimp only at hS) | fail)
    exact hQ _ hS.to

set_option maxHeartbeats 1600000 in
theorem Next_no (hS : Sat E w M) (hr : s.Right) (hy : Z.errY y ≠ 0) (hQ : ∀ w, Sat E w M → Q (.tuple #[.agg #[.int .i64 0, .int .i64 0, .int .i64 0, .int .i64 0, .int .i64 0], .int .i64 (Z.errY y)]) w) :
    Calls Tryd.prog 31 #[.agg #[.int .i64 s.num, .int .i64 s.r0, .int .i64 s.r1, .int .i64 s.r2, .int .i64 s.r3], .agg #[.int .i64 y.Kind, bv y.Byte, .int .i64 y.Len, .int .i64 y.Dist]] w (retP Q) := by
  refine state_State_Next.calls ?_
  unfold state_State_Next.F
  obtain ⟨k, b, l, d⟩ := y
  dsimp only
  refine pN_bx hS (by rfl) fun x2 w hS => ?_
  refine pN_bx hS (by rfl) fun x3 w hS => ?_
  refine pN_nz hS fun x4 w hS => ?_
  refine pN_la hS (by rfl) ?_
  refine pc_state_State_right (right_ok hS hr fun w hS => ?_)
  repeat' (first | refine pIf_f ?_ | refine pN_via (by (intro K; simp (disch := omega) only [go_sem, pN_min, pN_max, w_u32, w_u64, Option.isNone_some, Option.isNone_none]; (try simp only [wrap_u32, wrap_u64]); rfl)) ?_ | fail)
  refine ⟨fun _ => False, ?_, fun _ _ h => h.elim⟩
  unfold Z.errY at hy hQ
  dsimp only at hy hQ
  by_cases h1 : k = 1 ∨ k = 4
  · rw [if_pos h1] at hy; exact absurd rfl hy
  rw [if_neg h1] at hy hQ
  by_cases h2 : k = 2
  · subst h2
    rw [if_pos rfl] at hy hQ
    by_cases hc : Z.isLen l ∧ Z.isDist d
    · rw [if_pos hc] at hy; exact absurd rfl hy
    rw [if_neg hc] at hQ
    by_cases hl : Z.isLen l
    · have l0 : decide (Z.isLen l) = true := decide_eq_true hl
      have d0 : decide (Z.isDist d) = false := decide_eq_false fun h => hc ⟨hl, h⟩
      repeat' (first | (refine pc_state_isLen (isLen_ok _ ?_); rw [l0]) | (refine pc_state_isDist (isDist_ok _ ?_); rw [d0]) | (refine pN_eql_s ?_ ?_ <;> intro hc <;> try (exfalso; first | omega | exact hc rfl | exact hc (by assumption) | exact absurd hc (by assumption))) | refine pIf_t ?_ | refine pIf_f ?_ | refine pGd_go (by rfl) ?_ | refine pN_l hS (by first | rfl | assumption) ?_ | refine pL_ra hS (by rfl) ?_ | (refine pN_sa hS (by rfl) (by rfl) (by rfl) ?_; clear hS; intro w hS; try dsimp only at hS) | refine pN_via (by (intro K; simp (disch := omega) only [go_sem, pN_min, pN_max, w_u32, w_u64, Option.isNone_some, Option.isNone_none]; (try simp only [wrap_u32, wrap_u64]); rfl)) ?_ | fail)
      exact hQ _ hS.to
    · have l0 : decide (Z.isLen l) = false := decide_eq_false hl
      repeat' (first | (refine pc_state_isLen (isLen_ok _ ?_); rw [l0]) | (refine pN_eql_s ?_ ?_ <;> intro hc <;> try (exfalso; first | omega | exact hc rfl | exact hc (by assumption) | exact absurd hc (by assumption))) | refine pIf_t ?_ | refine pIf_f ?_ | refine pGd_no (by rfl) ?_ | refine pN_l hS (by first | rfl | assumption) ?_ | refine pL_ra hS (by rfl) ?_ | (refine pN_sa hS (by rfl) (by rfl) (by rfl) ?_; clear hS; intro w hS; try dsimp only at hS) | refine pN_via (by (intro K; simp (disch := omega) only [go_sem, pN_min, pN_max, w_u32, w_u64, Option.isNone_some, Option.isNone_none]; (try simp only [wrap_u32, wrap_u64]); rfl)) ?_ | fail)
      exact hQ _ hS.to
  rw [if_neg h2] at hy hQ
  by_cases h3 : k = 3
  · subst h3
    rw [if_pos rfl] at hy hQ
    by_cases hc : Z.isLen l ∧ 0 ≤ d ∧ d ≤ 3
    · rw [if_pos hc] at hy; exact absurd rfl hy
    rw [if_neg hc] at hQ
    by_cases hl : Z.isLen l
    · have l0 : decide (Z.isLen l) = true := decide_eq_true hl
      have hd : ¬ (0 ≤ d ∧ d ≤ 3) := fun h => hc ⟨hl, h⟩
      repeat' (first | (refine pc_state_isLen (isLen_ok _ ?_); rw [l0]) | ((first | refine pN_lss_s ?_ ?_ | refine pN_gtr_s ?_ ?_) <;> intro hc <;> try (exfalso; omega)) | (refine pN_eql_s ?_ ?_ <;> intro hc <;> try (exfalso; first | omega | exact hc rfl | exact hc (by assumption) | exact absurd hc (by assumption))) | refine pIf_t ?_ | refine pIf_f ?_ | refine pGd_go (by rfl) ?_ | refine pGd_no (by rfl) ?_ | refine pN_l hS (by first | rfl | assumption) ?_ | refine pL_ra hS (by rfl) ?_ | (refine pN_sa hS (by rfl) (by rfl) (by rfl) ?_; clear hS; intro w hS; try dsimp only at hS) | refine pN_via (by (intro K; simp (disch := omega) only [go_sem, pN_min, pN_max, w_u32, w_u64, Option.isNone_some, Option.isNone_none]; (try simp only [wrap_u32, wrap_u64]); rfl)) ?_ | fail)
      all_goals exact hQ _ hS.to
    · have l0 : decide (Z.isLen l) = false := decide_eq_false hl
      repeat' (first | (refine pc_state_isLen (isLen_ok _ ?_); rw [l0]) | (refine pN_eql_s ?_ ?_ <;> intro hc <;> try (exfalso; first | omega | exact hc rfl | exact hc (by assumption) | exact absurd hc (by assumption))) | refine pIf_t ?_ | refine pIf_f ?_ | refine pGd_no (by rfl) ?_ | refine pN_l hS (by first | rfl | assumption) ?_ | refine pL_ra hS (by rfl) ?_ | (refine pN_sa hS (by rfl) (by rfl) (by rfl) ?_; clear hS; intro w hS; try dsimp only at hS) | refine pN_via (by (intro K; simp (disch := omega) only [go_sem, pN_min, pN_max, w_u32, w_u64, Option.isNone_some, Option.isNone_none]; (try simp only [wrap_u32, wrap_u64]); rfl)) ?_ | fail)
      exact hQ _ hS.to
  rw [if_neg h3] at hy hQ
  repeat' (first | (refine pN_eql_s ?_ ?_ <;> intro hc <;> try (exfalso; first | omega | exact hc rfl | exact hc (by assumption) | exact absurd hc (by assumption))) | refine pIf_f ?_ | refine pN_l hS (by first | rfl | assumption) ?_ | refine pL_ra hS (by rfl) ?_ | (refine pN_sa hS (by rfl) (by rfl) (by rfl) ?_; clear hS; intro w hS; try dsimp only at hS) | refine pN_via (by (intro K; simp (disch := omega) only [go_sem, pN_min, pN_max, w_u32, w_u64, Option.isNone_some, Option.isNone_none]; (try simp only [wrap_u32, wrap_u64]); rfl)) ?_ | fail)
  exact hQ _ hS.to

theorem SLiteral_ok (hS : Sat E w M) (hr : s.Right) (hQ : ∀ w, Sat E w M → Q (.bool (decide (s.num < 7))) w) : Calls Tryd.prog 51 #[.agg #[.int .i64 s.num, .int .i64 s.r0, .int .i64 s.r1, .int .i64 s.r2, .int .i64 s.r3]] w (retP Q) := by
  refine state_State_Literal.calls ?_
  unfold state_State_Literal.F
  have hn := hr.num
  repeat' (first | ((first | refine pN_lss_s ?_ ?_ | refine pN_geq_s ?_ ?_) <;> intro hc <;> try (exfalso; omega)) | refine pGd_go (by rfl) ?_ | refine pN_l hS (by first | rfl | assumption) ?_ | (refine pN_bx hS (by rfl) ?_; clear hS; intro a w hS) | refine pN_via (by (intro K; simp (disch := omega) only [go_sem, pN_min, pN_max, w_u32, w_u64, Option.isNone_some, Option.isNone_none]; (try simp only [wrap_u32, wrap_u64]); rfl)) ?_ | fail)
  · rw [decide_eq_true hc] at hQ; exact hQ _ hS.to
  · rw [decide_eq_false hc] at hQ; exact hQ _ hS.to

theorem SNew_ok (hS : Sat E w M) (hQ : ∀ w, Sat E w M → Q (.agg #[.int .i64 0, .int .i64 1, .int .i64 1, .int .i64 1, .int .i64 1]) w) : Calls Tryd.prog 28 #[] w (retP Q) := by
  refine state_New.calls ?_
  unfold state_New.F
  repeat' (first | refine pL_ra hS (by rfl) ?_ | (refine pN_sa hS (by rfl) (by rfl) (by rfl) ?_; clear hS; intro w hS; try dsimp only at hS) | (refine pN_nz hS ?_; clear hS; intro a w hS) | refine pN_via (by (intro K; simp (disch := omega) only [go_sem, pN_min, pN_max, w_u32, w_u64, Option.isNone_some, Option.isNone_none]; (try simp only [wrap_u32, wrap_u64]); rfl)) ?_ | fail)
  exact hQ _ hS.to

theorem PropsByte_in (p : Z.Pr) (hp : p.Ok) (hS : Sat E w M) (hQ : ∀ w, Sat E w M → Q (.tuple #[.int .i64 ((p.pb * 5 + p.lp) * 9 + p.lc), .int .i64 0]) w) : Calls Tryd.prog 15 #[.agg #[.int .i64 p.lc, .int .i64 p.lp, .int .i64 p.pb]] w (retP Q) := by
  refine state_PropsByte.calls ?_
  unfold state_PropsByte.F
  obtain ⟨h1, h2, h3, h4, h5⟩ := hp
  repeat' (first | ((first | refine pN_lss_s ?_ ?_ | refine pN_gtr_s ?_ ?_) <;> intro hc <;> try (exfalso; omega)) | refine pIf_f ?_ | refine pGd_go (by rfl) ?_ | refine pN_l hS (by first | rfl | assumption) ?_ | (refine pN_bx hS (by rfl) ?_; clear hS; intro a w hS) | refine pN_via (by (intro K; simp (disch := omega) only [go_sem, pN_min, pN_max, w_u32, w_u64, Option.isNone_some, Option.isNone_none]; (try simp only [wrap_u32, wrap_u64]); rfl)) ?_ | fail)
  exact hQ _ hS.to
theorem PropsByte_no (p : Z.Pr) (hp : ¬ p.Ok) (hb : -9223372036854775808 ≤ p.lc ∧ p.lc < 9223372036854775808) (hS : Sat E w M) (hQ : ∀ w, Sat E w M → Q (.tuple #[.int .i64 0, .int .i64 6]) w) : Calls Tryd.prog 15 #[.agg #[.int .i64 p.lc, .int .i64 p.lp, .int .i64 p.pb]] w (retP Q) := by
  refine state_PropsByte.calls ?_
  unfold state_PropsByte.F
  unfold Z.Pr.Ok at hp
  repeat' (first | ((first | refine pN_lss_s ?_ ?_ | refine pN_gtr_s ?_ ?_) <;> intro hc <;> try (exfalso; omega)) | refine pIf_t ?_ | refine pGd_go (by rfl) ?_ | refine pGd_no (by rfl) ?_ | refine pN_l hS (by first | rfl | assumption) ?_ | (refine pN_bx hS (by rfl) ?_; clear hS; intro a w hS) | refine pN_via (by (intro K; simp (disch := omega) only [go_sem, pN_min, pN_max, w_u32, w_u64, Option.isNone_some, Option.isNone_none]; (try simp only [wrap_u32, wrap_u64]); rfl)) ?_ | fail)
  all_goals exact hQ _ hS.to

theorem Slot_in (d : Int) (hd : Z.isDist d) (hQ : Q (.tuple #[.int .i64 (Z.slot d), .int .i64 0]) w) : Calls Tryd.prog 52 #[.int .i64 d] w (retP Q) := by
  refine state_Slot.calls ?_
  unfold state_Slot.F
  have d0 : decide (Z.isDist d) = true := decide_eq_true hd
  obtain ⟨h1, h2⟩ := hd
  refine pc_state_isDist (isDist_ok _ ?_)
  rw [d0]
  repeat' (first | (refine pN_lss_s ?_ ?_ <;> intro hc <;> try (exfalso; omega)) | refine pIf_t ?_ | refine pIf_f ?_ | refine pN_via (by (intro K; simp (disch := omega) only [go_sem, pN_min, pN_max, w_u32, w_u64, Option.isNone_some, Option.isNone_none]; (try simp only [wrap_u32, wrap_u64]); rfl)) ?_ | fail)
  · unfold Z.slot at hQ
    rw [if_pos (by omega)] at hQ
    exact hQ
  · obtain ⟨x, hx⟩ : ∃ x : Nat, d - 1 = x := ⟨(d - 1).toNat, by omega⟩
    have hx2 : (d - 1).toNat = x := by omega
    have hlt : x.log2 < 32 := (Nat.log2_lt (by omega)).2 (by omega)
    have hle : 2 ≤ x.log2 := (Nat.le_log2 (by omega)).2 (by omega)
    unfold Z.slot at hQ
    rw [if_neg (by omega), hx2] at hQ
    rw [hx] at hQ ⊢
    refine pc_math_bits_Len (BLen_ok x (by omega) (by omega) ?_)
    repeat' (first | refine pN_shr_k (x.log2 - 1) (by omega) (by show _ ≤ 64; omega) ?_ | refine pN_via (by (intro K; simp (disch := omega) only [go_sem, pN_min, pN_max, w_u32, w_u64, Option.isNone_some, Option.isNone_none]; (try simp only [wrap_u32, wrap_u64]); rfl)) ?_ | fail)
    have h5 : (0 : Int) ≤ (x : Int) / 2 ^ (x.log2 - 1) % 2 ∧ (x : Int) / 2 ^ (x.log2 - 1) % 2 < 2 := by omega
    have e : (2 : Int) * (((x.log2 + 1 : Nat) : Int) - 1) + (x : Int) / 2 ^ (x.log2 - 1) % 2 = 2 * (x.log2 : Int) + (x : Int) / 2 ^ (x.log2 - 1) % 2 := by omega
    rw [e]
    exact hQ

theorem Range_in (s : Int) (h0 : 0 ≤ s) (h1 : s ≤ 63) (hQ : Q (.tuple #[.int .i64 (Z.least s), .int .i64 (Z.bitsN s), .int .i64 0]) w) : Calls Tryd.prog 53 #[.int .i64 s] w (retP Q) := by
  refine state_Range.calls ?_
  unfold state_Range.F
  unfold Z.least Z.bitsN at hQ
  repeat' (first | ((first | refine pN_lss_s ?_ ?_ | refine pN_gtr_s ?_ ?_) <;> intro hc <;> try (exfalso; omega)) | refine pIf_t ?_ | refine pIf_f ?_ | refine pGd_go (by rfl) ?_ | refine pN_via (by (intro K; simp (disch := omega) only [go_sem, pN_min, pN_max, w_u32, w_u64, Option.isNone_some, Option.isNone_none]; (try simp only [wrap_u32, wrap_u64]); rfl)) ?_ | fail)
  · rw [if_pos (by omega), if_pos (by omega)] at hQ
    exact hQ
  · rw [if_neg (by omega), if_neg (by omega)] at hQ
    have hp : (2 : Int) ^ (s / 2 - 1).toNat ≤ 2 ^ 30 := two_le' (by omega)
    have hp0 : (0 : Int) < 2 ^ (s / 2 - 1).toNat := Int.pow_pos (by omega)
    have e2 : (2 : Int) ^ 30 = 1073741824 := by decide
    have hj : s / 2 - 1 = ((s / 2 - 1).toNat : Int) := by omega
    have h2 : s % 2 = 0 ∨ s % 2 = 1 := by omega
    rcases h2 with h2 | h2
    · rw [h2] at hQ ⊢
      have e : (2 + 0 : Int) * 2 ^ (s / 2 - 1).toNat = 2 * 2 ^ (s / 2 - 1).toNat := by omega
      rw [e] at hQ
      repeat' (first | refine pN_via (v := .int .i64 2) (by intro K; rw [pN_or, or_2_0]) ?_ | refine pN_shl_k _ hj (by show _ ≤ 64; omega) ?_ | refine pN_via (by (intro K; simp (disch := omega) only [go_sem, pN_min, pN_max, w_u32, w_u64, Option.isNone_some, Option.isNone_none]; (try simp only [wrap_u32, wrap_u64]); rfl)) ?_ | fail)
      rw [← hj] at hQ
      exact hQ
    · rw [h2] at hQ ⊢
      repeat' (first | refine pN_via (v := .int .i64 3) (by intro K; rw [pN_or, or_2_1]) ?_ | refine pN_shl_k _ hj (by show _ ≤ 64; omega) ?_ | refine pN_via (by (intro K; simp (disch := omega) only [go_sem, pN_min, pN_max, w_u32, w_u64, Option.isNone_some, Option.isNone_none]; (try simp only [wrap_u32, wrap_u64]); rfl)) ?_ | fail)
      rw [← hj] at hQ
      exact hQ
end

end Go.Proofs.YtbgnnjfpiblkmaaDoor
