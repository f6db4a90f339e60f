/-
  Texts of one proof, one behind the other: State, LfWindow, ZWin, Win, Sym, LfModel, LfProb, Prob, Model, Ref10, LfPithref12.
-/
import Derived.Test.YtbgnnjfpiblkmaaGreatDoorRows
import Derived.Test.YtbgnnjfpiblkmaaGreatDoorMg3
set_option linter.unusedSimpArgs false
set_option linter.unnecessarySimpa false
set_option linter.unusedSectionVars false
set_option linter.unusedVariables false

namespace Go.Proofs.YtbgnnjfpiblkmaaGreatDoor
open Go
attribute [local irreducible] oMv oV oU oCall oCallV oBi oBin oUn oLoad oStore oNil oFld oField oIdx oIndex oPick oAlloc oBox oBuild oBs oConv oMk oSl oExt oFn oIface oMap oLook oMapUp oRange oNext oEntry oInv oAssert oPanic oRes pN pA pL pDr pIf gA pGd

instance ar_reps : Ar Tryz.prog 67 4 := ⟨_, Tryz.underlying67, Tryz.sizeOf3, Tryz.isAgg3⟩

theorem two_le' {a b : Nat} (h : a ≤ b) : (2 : Int) ^ a ≤ 2 ^ b := by exact_mod_cast Nat.pow_le_pow_right (by omega) h
theorem or_2_0 : (IntKind.i64.wrap ((BitVec.ofInt IntKind.i64.bits 2 ||| BitVec.ofInt IntKind.i64.bits 0).toNat)) = 2 := by decide +kernel
theorem or_2_1 : (IntKind.i64.wrap ((BitVec.ofInt IntKind.i64.bits 2 ||| BitVec.ofInt IntKind.i64.bits 1).toNat)) = 3 := by decide +kernel

section
variable {E w W : World} {M N : List HA} {Q : Value → World → Prop} {s : Z.St} {y : Z.Y}

theorem isDist_ok (d : Int) (hQ : Q (.bool (decide (Z.isDist d))) w) : Calls Tryz.prog 137 #[.int .i64 d] w (retP Q) := by
  refine state_isDist.calls ?_
  unfold state_isDist.F
  repeat' (first | ((first | refine pN_leq_s ?_ ?_ | refine pN_geq_s ?_ ?_) <;> intro hc <;> try (exfalso; omega)) | refine pGd_go (by rfl) ?_ | refine pGd_no (by rfl) ?_ | refine pN_v (hk := ?_) | fail)
  · rw [decide_eq_true (show Z.isDist d from ⟨by omega, by omega⟩)] at hQ; exact hQ
  · rw [decide_eq_false (show ¬ Z.isDist d from fun h => by unfold Z.isDist at h; omega)] at hQ; exact hQ
  · rw [decide_eq_false (show ¬ Z.isDist d from fun h => by unfold Z.isDist at h; omega)] at hQ; exact hQ

theorem isLen_ok (d : Int) (hQ : Q (.bool (decide (Z.isLen d))) w) : Calls Tryz.prog 136 #[.int .i64 d] w (retP Q) := by
  refine state_isLen.calls ?_
  unfold state_isLen.F
  repeat' (first | ((first | refine pN_leq_s ?_ ?_ | refine pN_geq_s ?_ ?_) <;> intro hc <;> try (exfalso; omega)) | refine pGd_go (by rfl) ?_ | refine pGd_no (by rfl) ?_ | refine pN_v (hk := ?_) | fail)
  · rw [decide_eq_true (show Z.isLen d from ⟨by omega, by omega⟩)] at hQ; exact hQ
  · rw [decide_eq_false (show ¬ Z.isLen d from fun h => by unfold Z.isLen at h; omega)] at hQ; exact hQ
  · rw [decide_eq_false (show ¬ Z.isLen d from fun h => by unfold Z.isLen at h; omega)] at hQ; exact hQ

theorem right_ok (hS : Sat E w M) (hr : s.Right) (hQ : ∀ w, Sat E w M → Q (.bool true) w) : Calls Tryz.prog 135 #[.agg #[.int .i64 s.num, .int .i64 s.r0, .int .i64 s.r1, .int .i64 s.r2, .int .i64 s.r3]] w (retP Q) := by
  refine state_State_right.calls ?_
  unfold state_State_right.F
  have hn := hr.num
  repeat' (first | (refine pN_bx hS (by rfl) ?_; clear hS; intro a w hS) | refine pN_v (hk := ?_) | fail)
  refine pN_la_at hS [.int .i64 s.r0, .int .i64 s.r1, .int .i64 s.r2, .int .i64 s.r3] rfl rfl ?_
  refine ⟨fun v w => ∃ i : Nat, v = .int .i64 i ∧ i ≤ 4 ∧ Sat E w (cel a ⟨100, [.int .i64 s.num, .int .i64 s.r0, .int .i64 s.r1, .int .i64 s.r2, .int .i64 s.r3]⟩ :: M), fun v _ => 4 - (RowKit.intOf v).toNat, ⟨0, rfl, by omega, hS⟩, ?_⟩
  clear hS
  rintro _ _ w ⟨i, rfl, hi, hS⟩
  have d0 : decide (Z.isDist s.r0) = true := decide_eq_true hr.d0
  have d1 : decide (Z.isDist s.r1) = true := decide_eq_true hr.d1
  have d2 : decide (Z.isDist s.r2) = true := decide_eq_true hr.d2
  have d3 : decide (Z.isDist s.r3) = true := decide_eq_true hr.d3
  have h4 : i = 0 ∨ i = 1 ∨ i = 2 ∨ i = 3 ∨ i = 4 := by omega
  rcases h4 with rfl | rfl | rfl | rfl | rfl
  · repeat' (first | refine pN_aix _ (by first | rfl | omega) (by omega) (by rfl) ?_ | (refine pc_state_isDist (isDist_ok _ ?_); first | rw [d0] | rw [d1] | rw [d2] | rw [d3]) | (refine pN_lss_s ?_ ?_ <;> intro hc <;> try (exfalso; omega)) | refine pIf_t ?_ | refine pIf_f ?_ | refine pN_v (hk := ?_) | fail)
    exact ⟨⟨1, rfl, by omega, hS⟩, by simp [RowKit.intOf]⟩
  · repeat' (first | refine pN_aix _ (by first | rfl | omega) (by omega) (by rfl) ?_ | (refine pc_state_isDist (isDist_ok _ ?_); first | rw [d0] | rw [d1] | rw [d2] | rw [d3]) | (refine pN_lss_s ?_ ?_ <;> intro hc <;> try (exfalso; omega)) | refine pIf_t ?_ | refine pIf_f ?_ | refine pN_v (hk := ?_) | fail)
    exact ⟨⟨2, rfl, by omega, hS⟩, by simp [RowKit.intOf]⟩
  · repeat' (first | refine pN_aix _ (by first | rfl | omega) (by omega) (by rfl) ?_ | (refine pc_state_isDist (isDist_ok _ ?_); first | rw [d0] | rw [d1] | rw [d2] | rw [d3]) | (refine pN_lss_s ?_ ?_ <;> intro hc <;> try (exfalso; omega)) | refine pIf_t ?_ | refine pIf_f ?_ | refine pN_v (hk := ?_) | fail)
    exact ⟨⟨3, rfl, by omega, hS⟩, by simp [RowKit.intOf]⟩
  · repeat' (first | refine pN_aix _ (by first | rfl | omega) (by omega) (by rfl) ?_ | (refine pc_state_isDist (isDist_ok _ ?_); first | rw [d0] | rw [d1] | rw [d2] | rw [d3]) | (refine pN_lss_s ?_ ?_ <;> intro hc <;> try (exfalso; omega)) | refine pIf_t ?_ | refine pIf_f ?_ | refine pN_v (hk := ?_) | fail)
    exact ⟨⟨4, rfl, by omega, hS⟩, by simp [RowKit.intOf]⟩
  · repeat' (first | ((first | refine pN_lss_s ?_ ?_ | refine pN_geq_s ?_ ?_) <;> intro hc <;> try (exfalso; omega)) | refine pIf_f ?_ | refine pGd_go (by rfl) ?_ | refine pN_l hS (by first | rfl | assumption) ?_ | refine pN_v (hk := ?_) | fail)
    exact hQ _ hS.to

theorem pN_glo {a : Addr} {v : Value} {t : TypeId} [Sc Tryz.prog t] {K : Value → World → Prop} (hS : Sat E w M) [h : Has (old W) M N] (hc : W.cell? a = some v) (hk : K v w) : pN Tryz.prog (oLoad t (.pointer (some a))) w K :=
  pN_ld Sc.na (Glo.up (W := W) hS hc) hk

set_option maxHeartbeats 1600000 in
theorem Next_in (hG : Glo W) (hS : Sat E w M) [h : Has (old W) M N] (hr : s.Right) (hy : Z.errY y = 0) (hQ : ∀ w, Sat E w M → Q (.tuple #[.agg (s.next y).cells.toArray, .int .i64 0]) w) :
    Calls Tryz.prog 92 #[.agg #[.int .i64 s.num, .int .i64 s.r0, .int .i64 s.r1, .int .i64 s.r2, .int .i64 s.r3], .agg #[.int .i64 y.Kind, bv y.Byte, .int .i64 y.Len, .int .i64 y.Dist]] w (retP Q) := by
  refine state_State_Next.calls ?_
  unfold state_State_Next.F
  have hn := hr.num
  obtain ⟨n, hn2⟩ : ∃ n : Nat, s.num = n := ⟨s.num.toNat, by omega⟩
  have e1 : (s.num).toNat = n := by omega
  have g1 := hG.lit n (by omega)
  have g2 := hG.mat n (by omega)
  have g3 := hG.rep n (by omega)
  have g4 := hG.sht n (by omega)
  rw [← hn2, ← e1] at g1 g2 g3 g4
  clear e1 hn2
  refine pN_bx hS (by rfl) fun x2 w hS => ?_
  refine pN_bx hS (by rfl) fun x3 w hS => ?_
  refine pN_nz hS fun x4 w hS => ?_
  refine pN_la hS (by rfl) ?_
  refine pc_state_State_right (right_ok hS hr fun w hS => ?_)
  repeat' (first | refine pIf_f ?_ | refine pN_v (hk := ?_) | fail)
  refine ⟨fun w => Sat E w (cel x4 ⟨100, [.int .i64 0, .int .i64 0, .int .i64 0, .int .i64 0, .int .i64 0]⟩ :: cel x3 ⟨48, [.int .i64 y.Kind, bv y.Byte, .int .i64 y.Len, .int .i64 y.Dist]⟩ :: cel x2 ⟨100, (s.next y).cells⟩ :: M), ?_, ?_⟩
  · have hk : y.Kind = 1 ∨ y.Kind = 4 ∨ y.Kind = 2 ∨ y.Kind = 3 := by
      unfold Z.errY at hy
      by_cases h1 : y.Kind = 1 ∨ y.Kind = 4
      · rcases h1 with h1 | h1 <;> simp [h1]
      · rw [if_neg h1] at hy
        by_cases h2 : y.Kind = 2
        · simp [h2]
        · rw [if_neg h2] at hy
          by_cases h3 : y.Kind = 3
          · simp [h3]
          · rw [if_neg h3] at hy; omega
    obtain ⟨k, b, l, d⟩ := y
    simp only at hk
    rcases hk with rfl | rfl | rfl | rfl
    all_goals dsimp only at hS ⊢
    · repeat' (first | refine pN_glo hS g1 ?_ | (refine pN_eql_s ?_ ?_ <;> intro hc <;> try (exfalso; first | omega | exact hc rfl | exact hc (by assumption) | exact absurd hc (by assumption))) | refine pIf_t ?_ | refine pN_l hS (by first | rfl | assumption) ?_ | (refine pN_s hS (by first | exact Nat.le_of_ble_eq_true rfl | assumption) (by rfl) ?_; clear hS; intro w hS; try simp only [List.set_cons_zero, List.set_cons_succ] at hS) | refine pN_v (hk := ?_) | fail)
      exact (show Sat E w (cel x2 ⟨100, (s.next ⟨1, b, l, d⟩).cells⟩ :: cel x4 _ :: cel x3 _ :: M) from hS).to
    · repeat' (first | refine pN_glo hS g4 ?_ | (refine pN_eql_s ?_ ?_ <;> intro hc <;> try (exfalso; first | omega | exact hc rfl | exact hc (by assumption) | exact absurd hc (by assumption))) | refine pIf_t ?_ | refine pIf_f ?_ | refine pN_l hS (by first | rfl | assumption) ?_ | (refine pN_s hS (by first | exact Nat.le_of_ble_eq_true rfl | assumption) (by rfl) ?_; clear hS; intro w hS; try simp only [List.set_cons_zero, List.set_cons_succ] at hS) | refine pN_v (hk := ?_) | fail)
      exact (show Sat E w (cel x2 ⟨100, (s.next ⟨4, b, l, d⟩).cells⟩ :: cel x4 _ :: cel x3 _ :: M) from hS).to
    · have hl : Z.isLen l ∧ Z.isDist d := by
        by_cases h : Z.isLen l ∧ Z.isDist d
        · exact h
        · simp [Z.errY, h] at hy
      have l0 : decide (Z.isLen l) = true := decide_eq_true hl.1
      have d0 : decide (Z.isDist d) = true := decide_eq_true hl.2
      repeat' (first | refine pN_glo hS g2 ?_ | (refine pc_state_isLen (isLen_ok _ ?_); rw [l0]) | (refine pc_state_isDist (isDist_ok _ ?_); rw [d0]) | (refine pN_sa_at hS (by rfl) (Nat.le_of_ble_eq_true rfl) (by rfl) ?_; clear hS; intro w hS) | (refine pN_eql_s ?_ ?_ <;> intro hc <;> try (exfalso; first | omega | exact hc rfl | exact hc (by assumption) | exact absurd hc (by assumption))) | refine pIf_t ?_ | refine pIf_f ?_ | refine pGd_go (by rfl) ?_ | refine pN_l hS (by first | rfl | assumption) ?_ | (refine pN_s hS (by first | exact Nat.le_of_ble_eq_true rfl | assumption) (by rfl) ?_; clear hS; intro w hS; try simp only [List.set_cons_zero, List.set_cons_succ] at hS) | refine pN_v (hk := ?_) | fail)
      exact (show Sat E w (cel x2 ⟨100, (s.next ⟨2, b, l, d⟩).cells⟩ :: cel x4 _ :: cel x3 _ :: M) from hS).to
    · have hl : Z.isLen l ∧ 0 ≤ d ∧ d ≤ 3 := by
        by_cases h : Z.isLen l ∧ 0 ≤ d ∧ d ≤ 3
        · exact h
        · simp [Z.errY, h] at hy
      have l0 : decide (Z.isLen l) = true := decide_eq_true hl.1
      have h4 : d = 0 ∨ d = 1 ∨ d = 2 ∨ d = 3 := by omega
      rcases h4 with rfl | rfl | rfl | rfl
      · repeat' (first | refine pN_glo hS g3 ?_ | (refine pc_state_isLen (isLen_ok _ ?_); rw [l0]) | refine pA_aslo 1 rfl (by decide) ?_ | refine pA_ashi _ (by rfl) (by decide) (by decide) ?_ | (refine pN_cpc hS st_sl_int _ (by rfl) (by rfl) (by rfl) (Nat.le_of_ble_eq_true rfl) ?_; clear hS; intro w hS) | ((first | refine pN_lss_s ?_ ?_ | refine pN_gtr_s ?_ ?_) <;> intro hc <;> try (exfalso; omega)) | (refine pN_eql_s ?_ ?_ <;> intro hc <;> try (exfalso; first | omega | exact hc rfl | exact hc (by assumption) | exact absurd hc (by assumption))) | refine pIf_t ?_ | refine pIf_f ?_ | refine pGd_go (by rfl) ?_ | refine pN_l hS (by first | rfl | assumption) ?_ | refine pL_l hS (by first | rfl | assumption) ?_ | (refine pN_s hS (by first | exact Nat.le_of_ble_eq_true rfl | assumption) (by rfl) ?_; clear hS; intro w hS; try simp only [List.set_cons_zero, List.set_cons_succ] at hS) | (refine pDr_go hS ?_; clear hS; intro w hS) | refine ⟨trivial, ?_⟩ | refine pN_v (hk := ?_) | refine pA_v (hk := ?_) | fail)
        exact (show Sat E w (cel x2 ⟨100, (s.next ⟨3, b, l, 0⟩).cells⟩ :: cel x4 _ :: cel x3 _ :: M) from hS).to
      · repeat' (first | refine pN_glo hS g3 ?_ | (refine pc_state_isLen (isLen_ok _ ?_); rw [l0]) | refine pA_aslo 1 rfl (by decide) ?_ | refine pA_ashi _ (by rfl) (by decide) (by decide) ?_ | (refine pN_cpc hS st_sl_int _ (by rfl) (by rfl) (by rfl) (Nat.le_of_ble_eq_true rfl) ?_; clear hS; intro w hS) | ((first | refine pN_lss_s ?_ ?_ | refine pN_gtr_s ?_ ?_) <;> intro hc <;> try (exfalso; omega)) | (refine pN_eql_s ?_ ?_ <;> intro hc <;> try (exfalso; first | omega | exact hc rfl | exact hc (by assumption) | exact absurd hc (by assumption))) | refine pIf_t ?_ | refine pIf_f ?_ | refine pGd_go (by rfl) ?_ | refine pN_l hS (by first | rfl | assumption) ?_ | refine pL_l hS (by first | rfl | assumption) ?_ | (refine pN_s hS (by first | exact Nat.le_of_ble_eq_true rfl | assumption) (by rfl) ?_; clear hS; intro w hS; try simp only [List.set_cons_zero, List.set_cons_succ] at hS) | (refine pDr_go hS ?_; clear hS; intro w hS) | refine ⟨trivial, ?_⟩ | refine pN_v (hk := ?_) | refine pA_v (hk := ?_) | fail)
        exact (show Sat E w (cel x2 ⟨100, (s.next ⟨3, b, l, 1⟩).cells⟩ :: cel x4 _ :: cel x3 _ :: M) from hS).to
      · repeat' (first | refine pN_glo hS g3 ?_ | (refine pc_state_isLen (isLen_ok _ ?_); rw [l0]) | refine pA_aslo 1 rfl (by decide) ?_ | refine pA_ashi _ (by rfl) (by decide) (by decide) ?_ | (refine pN_cpc hS st_sl_int _ (by rfl) (by rfl) (by rfl) (Nat.le_of_ble_eq_true rfl) ?_; clear hS; intro w hS) | ((first | refine pN_lss_s ?_ ?_ | refine pN_gtr_s ?_ ?_) <;> intro hc <;> try (exfalso; omega)) | (refine pN_eql_s ?_ ?_ <;> intro hc <;> try (exfalso; first | omega | exact hc rfl | exact hc (by assumption) | exact absurd hc (by assumption))) | refine pIf_t ?_ | refine pIf_f ?_ | refine pGd_go (by rfl) ?_ | refine pN_l hS (by first | rfl | assumption) ?_ | refine pL_l hS (by first | rfl | assumption) ?_ | (refine pN_s hS (by first | exact Nat.le_of_ble_eq_true rfl | assumption) (by rfl) ?_; clear hS; intro w hS; try simp only [List.set_cons_zero, List.set_cons_succ] at hS) | (refine pDr_go hS ?_; clear hS; intro w hS) | refine ⟨trivial, ?_⟩ | refine pN_v (hk := ?_) | refine pA_v (hk := ?_) | fail)
        exact (show Sat E w (cel x2 ⟨100, (s.next ⟨3, b, l, 2⟩).cells⟩ :: cel x4 _ :: cel x3 _ :: M) from hS).to
      · repeat' (first | refine pN_glo hS g3 ?_ | (refine pc_state_isLen (isLen_ok _ ?_); rw [l0]) | refine pA_aslo 1 rfl (by decide) ?_ | refine pA_ashi _ (by rfl) (by decide) (by decide) ?_ | (refine pN_cpc hS st_sl_int _ (by rfl) (by rfl) (by rfl) (Nat.le_of_ble_eq_true rfl) ?_; clear hS; intro w hS) | ((first | refine pN_lss_s ?_ ?_ | refine pN_gtr_s ?_ ?_) <;> intro hc <;> try (exfalso; omega)) | (refine pN_eql_s ?_ ?_ <;> intro hc <;> try (exfalso; first | omega | exact hc rfl | exact hc (by assumption) | exact absurd hc (by assumption))) | refine pIf_t ?_ | refine pIf_f ?_ | refine pGd_go (by rfl) ?_ | refine pN_l hS (by first | rfl | assumption) ?_ | refine pL_l hS (by first | rfl | assumption) ?_ | (refine pN_s hS (by first | exact Nat.le_of_ble_eq_true rfl | assumption) (by rfl) ?_; clear hS; intro w hS; try simp only [List.set_cons_zero, List.set_cons_succ] at hS) | (refine pDr_go hS ?_; clear hS; intro w hS) | refine ⟨trivial, ?_⟩ | refine pN_v (hk := ?_) | refine pA_v (hk := ?_) | fail)
        exact (show Sat E w (cel x2 ⟨100, (s.next ⟨3, b, l, 3⟩).cells⟩ :: cel x4 _ :: cel x3 _ :: M) from hS).to
  · rintro _ w hS
    repeat' (first | refine pN_la hS (by rfl) ?_ | refine pL_ra hS (by rfl) ?_ | (refine pN_sa hS (by rfl) (by rfl) (by rfl) ?_; clear hS; intro w hS; try dsimp only at hS) | fail)
    exact hQ _ hS.to

set_option maxHeartbeats 1600000 in
theorem Next_no (hS : Sat E w M) (hr : s.Right) (hy : Z.errY y ≠ 0) (hQ : ∀ w, Sat E w M → Q (.tuple #[.agg #[.int .i64 0, .int .i64 0, .int .i64 0, .int .i64 0, .int .i64 0], .int .i64 (Z.errY y)]) w) :
    Calls Tryz.prog 92 #[.agg #[.int .i64 s.num, .int .i64 s.r0, .int .i64 s.r1, .int .i64 s.r2, .int .i64 s.r3], .agg #[.int .i64 y.Kind, bv y.Byte, .int .i64 y.Len, .int .i64 y.Dist]] w (retP Q) := by
  refine state_State_Next.calls ?_
  unfold state_State_Next.F
  obtain ⟨k, b, l, d⟩ := y
  dsimp only
  refine pN_bx hS (by rfl) fun x2 w hS => ?_
  refine pN_bx hS (by rfl) fun x3 w hS => ?_
  refine pN_nz hS fun x4 w hS => ?_
  refine pN_la hS (by rfl) ?_
  refine pc_state_State_right (right_ok hS hr fun w hS => ?_)
  repeat' (first | refine pIf_f ?_ | refine pN_v (hk := ?_) | fail)
  refine ⟨fun _ => False, ?_, fun _ _ h => h.elim⟩
  unfold Z.errY at hy hQ
  dsimp only at hy hQ
  by_cases h1 : k = 1 ∨ k = 4
  · rw [if_pos h1] at hy; exact absurd rfl hy
  rw [if_neg h1] at hy hQ
  by_cases h2 : k = 2
  · subst h2
    rw [if_pos rfl] at hy hQ
    by_cases hc : Z.isLen l ∧ Z.isDist d
    · rw [if_pos hc] at hy; exact absurd rfl hy
    rw [if_neg hc] at hQ
    by_cases hl : Z.isLen l
    · have l0 : decide (Z.isLen l) = true := decide_eq_true hl
      have d0 : decide (Z.isDist d) = false := decide_eq_false fun h => hc ⟨hl, h⟩
      repeat' (first | (refine pc_state_isLen (isLen_ok _ ?_); rw [l0]) | (refine pc_state_isDist (isDist_ok _ ?_); rw [d0]) | (refine pN_eql_s ?_ ?_ <;> intro hc <;> try (exfalso; first | omega | exact hc rfl | exact hc (by assumption) | exact absurd hc (by assumption))) | refine pIf_t ?_ | refine pIf_f ?_ | refine pGd_go (by rfl) ?_ | refine pN_l hS (by first | rfl | assumption) ?_ | refine pL_ra hS (by rfl) ?_ | (refine pN_sa hS (by rfl) (by rfl) (by rfl) ?_; clear hS; intro w hS; try dsimp only at hS) | refine pN_v (hk := ?_) | fail)
      exact hQ _ hS.to
    · have l0 : decide (Z.isLen l) = false := decide_eq_false hl
      repeat' (first | (refine pc_state_isLen (isLen_ok _ ?_); rw [l0]) | (refine pN_eql_s ?_ ?_ <;> intro hc <;> try (exfalso; first | omega | exact hc rfl | exact hc (by assumption) | exact absurd hc (by assumption))) | refine pIf_t ?_ | refine pIf_f ?_ | refine pGd_no (by rfl) ?_ | refine pN_l hS (by first | rfl | assumption) ?_ | refine pL_ra hS (by rfl) ?_ | (refine pN_sa hS (by rfl) (by rfl) (by rfl) ?_; clear hS; intro w hS; try dsimp only at hS) | refine pN_v (hk := ?_) | fail)
      exact hQ _ hS.to
  rw [if_neg h2] at hy hQ
  by_cases h3 : k = 3
  · subst h3
    rw [if_pos rfl] at hy hQ
    by_cases hc : Z.isLen l ∧ 0 ≤ d ∧ d ≤ 3
    · rw [if_pos hc] at hy; exact absurd rfl hy
    rw [if_neg hc] at hQ
    by_cases hl : Z.isLen l
    · have l0 : decide (Z.isLen l) = true := decide_eq_true hl
      have hd : ¬ (0 ≤ d ∧ d ≤ 3) := fun h => hc ⟨hl, h⟩
      repeat' (first | (refine pc_state_isLen (isLen_ok _ ?_); rw [l0]) | ((first | refine pN_lss_s ?_ ?_ | refine pN_gtr_s ?_ ?_) <;> intro hc <;> try (exfalso; omega)) | (refine pN_eql_s ?_ ?_ <;> intro hc <;> try (exfalso; first | omega | exact hc rfl | exact hc (by assumption) | exact absurd hc (by assumption))) | refine pIf_t ?_ | refine pIf_f ?_ | refine pGd_go (by rfl) ?_ | refine pGd_no (by rfl) ?_ | refine pN_l hS (by first | rfl | assumption) ?_ | refine pL_ra hS (by rfl) ?_ | (refine pN_sa hS (by rfl) (by rfl) (by rfl) ?_; clear hS; intro w hS; try dsimp only at hS) | refine pN_v (hk := ?_) | fail)
      all_goals exact hQ _ hS.to
    · have l0 : decide (Z.isLen l) = false := decide_eq_false hl
      repeat' (first | (refine pc_state_isLen (isLen_ok _ ?_); rw [l0]) | (refine pN_eql_s ?_ ?_ <;> intro hc <;> try (exfalso; first | omega | exact hc rfl | exact hc (by assumption) | exact absurd hc (by assumption))) | refine pIf_t ?_ | refine pIf_f ?_ | refine pGd_no (by rfl) ?_ | refine pN_l hS (by first | rfl | assumption) ?_ | refine pL_ra hS (by rfl) ?_ | (refine pN_sa hS (by rfl) (by rfl) (by rfl) ?_; clear hS; intro w hS; try dsimp only at hS) | refine pN_v (hk := ?_) | fail)
      exact hQ _ hS.to
  rw [if_neg h3] at hy hQ
  repeat' (first | (refine pN_eql_s ?_ ?_ <;> intro hc <;> try (exfalso; first | omega | exact hc rfl | exact hc (by assumption) | exact absurd hc (by assumption))) | refine pIf_f ?_ | refine pN_l hS (by first | rfl | assumption) ?_ | refine pL_ra hS (by rfl) ?_ | (refine pN_sa hS (by rfl) (by rfl) (by rfl) ?_; clear hS; intro w hS; try dsimp only at hS) | refine pN_v (hk := ?_) | fail)
  exact hQ _ hS.to

theorem SLiteral_ok (hS : Sat E w M) (hr : s.Right) (hQ : ∀ w, Sat E w M → Q (.bool (decide (s.num < 7))) w) : Calls Tryz.prog 144 #[.agg #[.int .i64 s.num, .int .i64 s.r0, .int .i64 s.r1, .int .i64 s.r2, .int .i64 s.r3]] w (retP Q) := by
  refine state_State_Literal.calls ?_
  unfold state_State_Literal.F
  have hn := hr.num
  repeat' (first | ((first | refine pN_lss_s ?_ ?_ | refine pN_geq_s ?_ ?_) <;> intro hc <;> try (exfalso; omega)) | refine pGd_go (by rfl) ?_ | refine pN_l hS (by first | rfl | assumption) ?_ | (refine pN_bx hS (by rfl) ?_; clear hS; intro a w hS) | refine pN_v (hk := ?_) | fail)
  · rw [decide_eq_true hc] at hQ; exact hQ _ hS.to
  · rw [decide_eq_false hc] at hQ; exact hQ _ hS.to

theorem SNew_ok (hS : Sat E w M) (hQ : ∀ w, Sat E w M → Q (.agg #[.int .i64 0, .int .i64 1, .int .i64 1, .int .i64 1, .int .i64 1]) w) : Calls Tryz.prog 43 #[] w (retP Q) := by
  refine state_New.calls ?_
  unfold state_New.F
  repeat' (first | refine pL_ra hS (by rfl) ?_ | (refine pN_sa hS (by rfl) (by rfl) (by rfl) ?_; clear hS; intro w hS; try dsimp only at hS) | (refine pN_nz hS ?_; clear hS; intro a w hS) | refine pN_v (hk := ?_) | fail)
  exact hQ _ hS.to

theorem PropsByte_in (p : Z.Pr) (hp : p.Ok) (hS : Sat E w M) (hQ : ∀ w, Sat E w M → Q (.tuple #[.int .i64 ((p.pb * 5 + p.lp) * 9 + p.lc), .int .i64 0]) w) : Calls Tryz.prog 45 #[.agg #[.int .i64 p.lc, .int .i64 p.lp, .int .i64 p.pb]] w (retP Q) := by
  refine state_PropsByte.calls ?_
  unfold state_PropsByte.F
  obtain ⟨h1, h2, h3, h4, h5⟩ := hp
  repeat' (first | ((first | refine pN_lss_s ?_ ?_ | refine pN_gtr_s ?_ ?_) <;> intro hc <;> try (exfalso; omega)) | refine pIf_f ?_ | refine pGd_go (by rfl) ?_ | refine pN_l hS (by first | rfl | assumption) ?_ | (refine pN_bx hS (by rfl) ?_; clear hS; intro a w hS) | refine pN_v (hk := ?_) | fail)
  exact hQ _ hS.to
theorem PropsByte_no (p : Z.Pr) (hp : ¬ p.Ok) (hb : -9223372036854775808 ≤ p.lc ∧ p.lc < 9223372036854775808) (hS : Sat E w M) (hQ : ∀ w, Sat E w M → Q (.tuple #[.int .i64 0, .int .i64 6]) w) : Calls Tryz.prog 45 #[.agg #[.int .i64 p.lc, .int .i64 p.lp, .int .i64 p.pb]] w (retP Q) := by
  refine state_PropsByte.calls ?_
  unfold state_PropsByte.F
  unfold Z.Pr.Ok at hp
  repeat' (first | ((first | refine pN_lss_s ?_ ?_ | refine pN_gtr_s ?_ ?_) <;> intro hc <;> try (exfalso; omega)) | refine pIf_t ?_ | refine pGd_go (by rfl) ?_ | refine pGd_no (by rfl) ?_ | refine pN_l hS (by first | rfl | assumption) ?_ | (refine pN_bx hS (by rfl) ?_; clear hS; intro a w hS) | refine pN_v (hk := ?_) | fail)
  all_goals exact hQ _ hS.to

theorem Range_in (s : Int) (h0 : 0 ≤ s) (h1 : s ≤ 63) (hQ : Q (.tuple #[.int .i64 (Z.least s), .int .i64 (Z.bitsN s), .int .i64 0]) w) : Calls Tryz.prog 146 #[.int .i64 s] w (retP Q) := by
  refine state_Range.calls ?_
  unfold state_Range.F
  unfold Z.least Z.bitsN at hQ
  repeat' (first | ((first | refine pN_lss_s ?_ ?_ | refine pN_gtr_s ?_ ?_) <;> intro hc <;> try (exfalso; omega)) | refine pIf_t ?_ | refine pIf_f ?_ | refine pGd_go (by rfl) ?_ | refine pN_v (hk := ?_) | fail)
  · rw [if_pos (by omega), if_pos (by omega)] at hQ
    exact hQ
  · rw [if_neg (by omega), if_neg (by omega)] at hQ
    have hp : (2 : Int) ^ (s / 2 - 1).toNat ≤ 2 ^ 30 := two_le' (by omega)
    have hp0 : (0 : Int) < 2 ^ (s / 2 - 1).toNat := Int.pow_pos (by omega)
    have e2 : (2 : Int) ^ 30 = 1073741824 := by decide
    have hj : s / 2 - 1 = ((s / 2 - 1).toNat : Int) := by omega
    have h2 : s % 2 = 0 ∨ s % 2 = 1 := by omega
    rcases h2 with h2 | h2
    · rw [h2] at hQ ⊢
      have e : (2 + 0 : Int) * 2 ^ (s / 2 - 1).toNat = 2 * 2 ^ (s / 2 - 1).toNat := by omega
      rw [e] at hQ
      repeat' (first | refine pN_via (v := .int .i64 2) (by intro K; rw [pN_or, or_2_0]) ?_ | refine pN_shl_k _ hj (by show _ ≤ 64; omega) ?_ | refine pN_v (hk := ?_) | fail)
      rw [← hj] at hQ
      exact hQ
    · rw [h2] at hQ ⊢
      repeat' (first | refine pN_via (v := .int .i64 3) (by intro K; rw [pN_or, or_2_1]) ?_ | refine pN_shl_k _ hj (by show _ ≤ 64; omega) ?_ | refine pN_v (hk := ?_) | fail)
      rw [← hj] at hQ
      exact hQ
end

end Go.Proofs.YtbgnnjfpiblkmaaGreatDoor

namespace Go.Proofs.YtbgnnjfpiblkmaaGreatDoor
open Go
set_option maxRecDepth 100000

def window_New.F [Pan] (x0 : Value) (w : World) (Q : Value → World → Prop) : Prop :=
 pN Tryz.prog (oBin .lss 3 (.tmp 4) (.const (.int .i64 1)) x0 (.int .i64 1)) w fun x5 w1 =>
 pGd (gB x5 false) (pN Tryz.prog (oMv x0) w1) w1 fun x7 w2 =>
 pGd (gB x5 false) (pN Tryz.prog (oBin .gtr 3 (.tmp 7) (.const (.int .i64 4294967295)) x7 (.int .i64 4294967295)) w2) w2 fun x8 w3 =>
 pN Tryz.prog (oPick x5 (.bool true) x8) w3 fun x9 w4 =>
 pIf x9
 (Q (.tuple #[(.pointer none), (.int .i64 7)]) w4)
 (pN Tryz.prog (oBuild 175 [(0, x0)]) w4 fun x11 w5 =>
 pN Tryz.prog (oBox 175 x11) w5 fun x12 w6 =>
 Q (.tuple #[x12, (.int .i64 0)]) w6)
theorem window_New.calls [Pan] {x0 : Value} {w : World} {Q : Value → World → Prop} (h : window_New.F x0 w Q) : Calls Tryz.prog 42 #[x0] w (retP Q) := calls_lift mixed .z [x0] Tryz.func42 (by kernel_rfl) (by kernel_rfl) h

def window_Window_Put.H : Hints := { cut := fun | 3 => some ([1], 2147450882) | 8 => some ([1], 295147905177205342226) | 11 => some ([], 9669045373675598575042560) | _ => none, loop := fun | 8 => ([1], 40564819207008192942715149746210) | _ => ([], 0), order := fun | 3 => [(0, 0), (1, 1), (2, 3), (3, 7), (4, 15), (5, 31), (6, 63), (7, 127), (8, 255), (9, 511), (10, 1023), (11, 2047), (12, 4095), (13, 8191)] | 5 => [(0, 0), (1, 1), (2, 3), (3, 7), (4, 15), (5, 31), (6, 63), (7, 127), (8, 255), (9, 511), (10, 1023), (11, 2047)] | 9 => [(0, 0), (1, 1), (2, 3), (3, 7), (4, 15), (5, 31), (6, 63), (7, 127), (8, 255)] | 11 => [(0, 0), (1, 1), (2, 3), (3, 7), (4, 15), (5, 31), (6, 63), (7, 127), (8, 255), (9, 511), (10, 1023), (11, 2047)] | _ => [] }
def window_Window_Put.F [Pan] (x0 x1 : Value) (w : World) (Q : Value → World → Prop) : Prop :=
 pN Tryz.prog (oNil x0) w fun x7 w1 =>
 pN Tryz.prog (oFld 175 x7 3) w1 fun x8 w2 =>
 pN Tryz.prog (oLoad 3 x8) w2 fun x9 w3 =>
 pN Tryz.prog (oBi .len #[30] 3 [false] [x1]) w3 fun x11 w4 =>
 pN Tryz.prog (oBin .add 3 (.tmp 9) (.tmp 11) x9 x11) w4 fun x12 w5 =>
 pN Tryz.prog (oNil x0) w5 fun x13 w6 =>
 pN Tryz.prog (oFld 175 x13 3) w6 fun x14 w7 =>
 pN Tryz.prog (oStore 3 x14 x12) w7 fun _ w8 =>
 ∃ I3 : Value → World → Prop,
 (pN Tryz.prog (oBi .len #[30] 3 [false] [x1]) w8 fun x16 w9 =>
 pN Tryz.prog (oNil x0) w9 fun x18 w10 =>
 pN Tryz.prog (oFld 175 x18 0) w10 fun x19 w11 =>
 pN Tryz.prog (oLoad 3 x19) w11 fun x20 w12 =>
 pN Tryz.prog (oBin .gtr 3 (.tmp 16) (.tmp 20) x16 x20) w12 fun x21 w13 =>
 pIf x21
 (pN Tryz.prog (oBi .len #[30] 3 [false] [x1]) w13 fun x24 w14 =>
 pN Tryz.prog (oNil x0) w14 fun x26 w15 =>
 pN Tryz.prog (oFld 175 x26 0) w15 fun x27 w16 =>
 pN Tryz.prog (oLoad 3 x27) w16 fun x28 w17 =>
 pN Tryz.prog (oBin .sub 3 (.tmp 24) (.tmp 28) x24 x28) w17 fun x29 w18 =>
 pN Tryz.prog (oSl 30 x1 (some x29) none none) w18 fun x30 w19 =>
 I3 x30 w19)
 (I3 x1 w13)) ∧
 ∀ (_j3 : Env) (b1c3 : Value) (w20 : World), I3 b1c3 w20 →
 ∃ I8 : Value → World → Prop,
 (pDr w20 fun w21 =>
 pA Tryz.prog (oBi .len #[30] 3 [false] [b1c3]) fun x32 =>
 pA Tryz.prog (oNil x0) fun x34 =>
 pA Tryz.prog (oFld 175 x34 0) fun x35 =>
 pL Tryz.prog (oLoad 3 x35) w21 fun x36 =>
 pA Tryz.prog (oNil x0) fun x38 =>
 pA Tryz.prog (oFld 175 x38 1) fun x39 =>
 pL Tryz.prog (oLoad 30 x39) w21 fun x40 =>
 pA Tryz.prog (oBi .len #[30] 3 [false] [x40]) fun x41 =>
 pA Tryz.prog (oBin .sub 3 (.tmp 36) (.tmp 41) x36 x41) fun x42 =>
 pA Tryz.prog (oBi .min #[3, 3] 3 [false, false] [x32, x42]) fun x43 =>
 pN Tryz.prog (oBin .gtr 3 (.tmp 44) (.const (.int .i64 0)) x43 (.int .i64 0)) w21 fun x45 w22 =>
 pIf x45
 (pDr w22 fun w23 =>
 pA Tryz.prog (oNil x0) fun x48 =>
 pA Tryz.prog (oFld 175 x48 1) fun x49 =>
 pL Tryz.prog (oLoad 30 x49) w23 fun x50 =>
 pA Tryz.prog (oSl 30 b1c3 none (some x43) none) fun x53 =>
 pN Tryz.prog (oBi .append #[30, 30] 30 [false, false] [x50, x53]) w23 fun x54 w24 =>
 (True) ∧ (pA Tryz.prog (oNil x0) fun x55 =>
 pA Tryz.prog (oFld 175 x55 1) fun x56 =>
 pN Tryz.prog (oStore 30 x56 x54) w24 fun _ w25 =>
 (True) ∧ (pN Tryz.prog (oNil x0) w25 fun x59 w26 =>
 pN Tryz.prog (oFld 175 x59 1) w26 fun x60 w27 =>
 pN Tryz.prog (oLoad 30 x60) w27 fun x61 w28 =>
 pN Tryz.prog (oBi .len #[30] 3 [false] [x61]) w28 fun x62 w29 =>
 pN Tryz.prog (oNil x0) w29 fun x63 w30 =>
 pN Tryz.prog (oFld 175 x63 2) w30 fun x64 w31 =>
 pN Tryz.prog (oStore 3 x64 x62) w31 fun _ w32 =>
 pN Tryz.prog (oSl 30 b1c3 (some x43) none none) w32 fun x67 w33 =>
 I8 x67 w33)))
 (I8 b1c3 w22)) ∧
 ∀ (_j8 : Env) (b1c8 : Value) (w34 : World), I8 b1c8 w34 →
 ∃ (L8 : Value → World → Prop) (m8 : Value → World → Nat),
 L8 b1c8 w34 ∧
 ∀ (_k8 : Env) (b1l8 : Value) (w35 : World), L8 b1l8 w35 →
 pN Tryz.prog (oBi .len #[30] 3 [false] [b1l8]) w35 fun x69 w36 =>
 pN Tryz.prog (oBin .gtr 3 (.tmp 69) (.const (.int .i64 0)) x69 (.int .i64 0)) w36 fun x70 w37 =>
 pIf x70
 (∃ I11 : World → Prop,
 (pDr w37 fun w38 =>
 pA Tryz.prog (oNil x0) fun x72 =>
 pA Tryz.prog (oFld 175 x72 2) fun x73 =>
 pL Tryz.prog (oLoad 3 x73) w38 fun x74 =>
 pA Tryz.prog (oNil x0) fun x76 =>
 pA Tryz.prog (oFld 175 x76 0) fun x77 =>
 pL Tryz.prog (oLoad 3 x77) w38 fun x78 =>
 pA Tryz.prog (oBin .eql 3 (.tmp 74) (.tmp 78) x74 x78) fun x79 =>
 pIf x79
 (pN Tryz.prog (oNil x0) w38 fun x81 w39 =>
 pN Tryz.prog (oFld 175 x81 2) w39 fun x82 w40 =>
 pN Tryz.prog (oStore 3 x82 (.int .i64 0)) w40 fun _ w41 =>
 I11 w41)
 (I11 w38)) ∧
 ∀ (_j11 : Env) (w42 : World), I11 w42 →
 pDr w42 fun w43 =>
 pA Tryz.prog (oNil x0) fun x84 =>
 pA Tryz.prog (oFld 175 x84 1) fun x85 =>
 pL Tryz.prog (oLoad 30 x85) w43 fun x86 =>
 pA Tryz.prog (oNil x0) fun x88 =>
 pA Tryz.prog (oFld 175 x88 2) fun x89 =>
 pL Tryz.prog (oLoad 3 x89) w43 fun x90 =>
 pA Tryz.prog (oSl 30 x86 (some x90) none none) fun x91 =>
 pN Tryz.prog (oBi .copy #[30, 30] 3 [false, false] [x91, b1l8]) w43 fun x93 w44 =>
 (True) ∧ (pN Tryz.prog (oNil x0) w44 fun x95 w45 =>
 pN Tryz.prog (oFld 175 x95 2) w45 fun x96 w46 =>
 pN Tryz.prog (oLoad 3 x96) w46 fun x97 w47 =>
 pN Tryz.prog (oBin .add 3 (.tmp 97) (.tmp 98) x97 x93) w47 fun x99 w48 =>
 pN Tryz.prog (oNil x0) w48 fun x100 w49 =>
 pN Tryz.prog (oFld 175 x100 2) w49 fun x101 w50 =>
 pN Tryz.prog (oStore 3 x101 x99) w50 fun _ w51 =>
 pN Tryz.prog (oSl 30 b1l8 (some x93) none none) w51 fun x104 w52 =>
 (L8 x104 w52 ∧ m8 x104 w52 < m8 b1l8 w35)))
 (Q (.tuple #[]) w37)
theorem window_Window_Put.calls [Pan] {x0 x1 : Value} {w : World} {Q : Value → World → Prop} (h : window_Window_Put.F x0 x1 w Q) : Calls Tryz.prog 46 #[x0, x1] w (retP Q) := calls_lift mixed window_Window_Put.H [x0, x1] Tryz.func46 (by kernel_rfl) (by kernel_rfl) h

def window_Window_Clear.F [Pan] (x0 : Value) (w : World) (Q : Value → World → Prop) : Prop :=
 pN Tryz.prog (oNil x0) w fun x4 w1 =>
 pN Tryz.prog (oFld 175 x4 0) w1 fun x5 w2 =>
 pN Tryz.prog (oLoad 3 x5) w2 fun x6 w3 =>
 pN Tryz.prog (oBuild 175 [(0, x6)]) w3 fun x7 w4 =>
 pN Tryz.prog (oNil x0) w4 fun x8 w5 =>
 pN Tryz.prog (oStore 175 x8 x7) w5 fun _ w6 =>
 Q (.tuple #[]) w6
theorem window_Window_Clear.calls [Pan] {x0 : Value} {w : World} {Q : Value → World → Prop} (h : window_Window_Clear.F x0 w Q) : Calls Tryz.prog 47 #[x0] w (retP Q) := calls_lift mixed .z [x0] Tryz.func47 (by kernel_rfl) (by kernel_rfl) h

def window_Window_Copy.H : Hints := { cut := fun  | _ => none, loop := fun | 5 => ([8, 25], 549722260224) | _ => ([], 0), order := fun  | _ => [] }
def window_Window_Copy.F [Pan] (x0 x1 x2 : Value) (w : World) (Q : Value → World → Prop) : Prop :=
 pN Tryz.prog (oCall 138 [x0, x1]) w fun x12 w1 =>
 pN Tryz.prog (oUn .not x12) w1 fun x13 w2 =>
 pGd (gB x13 false) (pN Tryz.prog (oMv x2) w2) w2 fun x15 w3 =>
 pGd (gB x13 false) (pN Tryz.prog (oBin .lss 3 (.tmp 15) (.const (.int .i64 0)) x15 (.int .i64 0)) w3) w3 fun x16 w4 =>
 pN Tryz.prog (oPick x13 (.bool true) x16) w4 fun x17 w5 =>
 pGd (gB x17 false) (pN Tryz.prog (oMv x2) w5) w5 fun x19 w6 =>
 pGd (gB x17 false) (pN Tryz.prog (oBin .gtr 3 (.tmp 19) (.const (.int .i64 273)) x19 (.int .i64 273)) w6) w6 fun x20 w7 =>
 pN Tryz.prog (oPick x17 (.bool true) x20) w7 fun x21 w8 =>
 pIf x21
 (Q (.tuple #[(.slice none 0 0), (.int .i64 7)]) w8)
 (pN Tryz.prog (oMk 30 (.int .i64 0) x2) w8 fun x23 w9 =>
 ∃ (L5 : Value → Value → World → Prop) (m5 : Value → Value → World → Nat),
 L5 x23 (.int .i64 0) w9 ∧
 ∀ (_k5 : Env) (b8l5 : Value) (v25l5 : Value) (w10 : World), L5 b8l5 v25l5 w10 →
 pN Tryz.prog (oBin .lss 3 (.tmp 25) (.tmp 24) v25l5 x2) w10 fun x26 w11 =>
 pIf x26
 (pN Tryz.prog (oCall 139 [x0, x1]) w11 fun x29 w12 =>
 pN Tryz.prog (oBs 30 1 [(0, x29)]) w12 fun x32 w13 =>
 pN Tryz.prog (oCall 46 [x0, x32]) w13 fun _ w14 =>
 pN Tryz.prog (oBs 30 1 [(0, x29)]) w14 fun x36 w15 =>
 pN Tryz.prog (oBi .append #[30, 30] 30 [false, false] [b8l5, x36]) w15 fun x37 w16 =>
 pN Tryz.prog (oBin .add 3 (.tmp 25) (.const (.int .i64 1)) v25l5 (.int .i64 1)) w16 fun x38 w17 =>
 (L5 x37 x38 w17 ∧ m5 x37 x38 w17 < m5 b8l5 v25l5 w10))
 (Q (.tuple #[b8l5, (.int .i64 0)]) w11))
theorem window_Window_Copy.calls [Pan] {x0 x1 x2 : Value} {w : World} {Q : Value → World → Prop} (h : window_Window_Copy.F x0 x1 x2 w Q) : Calls Tryz.prog 93 #[x0, x1, x2] w (retP Q) := calls_lift mixed window_Window_Copy.H [x0, x1, x2] Tryz.func93 (by kernel_rfl) (by kernel_rfl) h

def window_Window_Last.F [Pan] (x0 x1 : Value) (w : World) (Q : Value → World → Prop) : Prop :=
 pN Tryz.prog (oCall 138 [x0, x1]) w fun x8 w1 =>
 pN Tryz.prog (oUn .not x8) w1 fun x9 w2 =>
 pIf x9
 (Q (.tuple #[(bv 0), (.int .i64 7)]) w2)
 (pN Tryz.prog (oCall 139 [x0, x1]) w2 fun x12 w3 =>
 Q (.tuple #[x12, (.int .i64 0)]) w3)
theorem window_Window_Last.calls [Pan] {x0 x1 : Value} {w : World} {Q : Value → World → Prop} (h : window_Window_Last.F x0 x1 w Q) : Calls Tryz.prog 101 #[x0, x1] w (retP Q) := calls_lift mixed .z [x0, x1] Tryz.func101 (by kernel_rfl) (by kernel_rfl) h

def window_Window_Pos.F [Pan] (x0 : Value) (w : World) (Q : Value → World → Prop) : Prop :=
 pN Tryz.prog (oNil x0) w fun x4 w1 =>
 pN Tryz.prog (oFld 175 x4 3) w1 fun x5 w2 =>
 pN Tryz.prog (oLoad 3 x5) w2 fun x6 w3 =>
 Q x6 w3
theorem window_Window_Pos.calls [Pan] {x0 : Value} {w : World} {Q : Value → World → Prop} (h : window_Window_Pos.F x0 w Q) : Calls Tryz.prog 103 #[x0] w (retP Q) := calls_lift mixed .z [x0] Tryz.func103 (by kernel_rfl) (by kernel_rfl) h

def window_Window_in.F [Pan] (x0 x1 : Value) (w : World) (Q : Value → World → Prop) : Prop :=
 pN Tryz.prog (oBin .geq 3 (.tmp 5) (.const (.int .i64 1)) x1 (.int .i64 1)) w fun x6 w1 =>
 pGd (gB x6 true) (pN Tryz.prog (oMv x1) w1) w1 fun x8 w2 =>
 pGd (gB x6 true) (pN Tryz.prog (oMv x0) w2) w2 fun x9 w3 =>
 pGd (gB x6 true) (pN Tryz.prog (oNil x9) w3) w3 fun x10 w4 =>
 pGd (gB x6 true) (pN Tryz.prog (oFld 175 x10 1) w4) w4 fun x11 w5 =>
 pGd (gB x6 true) (pN Tryz.prog (oLoad 30 x11) w5) w5 fun x12 w6 =>
 pGd (gB x6 true) (pN Tryz.prog (oBi .len #[30] 3 [false] [x12]) w6) w6 fun x13 w7 =>
 pGd (gB x6 true) (pN Tryz.prog (oBin .leq 3 (.tmp 8) (.tmp 13) x8 x13) w7) w7 fun x14 w8 =>
 pN Tryz.prog (oPick x6 x14 (.bool false)) w8 fun x15 w9 =>
 Q x15 w9
theorem window_Window_in.calls [Pan] {x0 x1 : Value} {w : World} {Q : Value → World → Prop} (h : window_Window_in.F x0 x1 w Q) : Calls Tryz.prog 138 #[x0, x1] w (retP Q) := calls_lift mixed .z [x0, x1] Tryz.func138 (by kernel_rfl) (by kernel_rfl) h

def window_Window_back.H : Hints := { cut := fun | 4 => some ([5], 2093088) | _ => none, loop := fun  | _ => ([], 0), order := fun  | _ => [] }
def window_Window_back.F [Pan] (x0 x1 : Value) (w : World) (Q : Value → World → Prop) : Prop :=
 pN Tryz.prog (oNil x0) w fun x7 w1 =>
 pN Tryz.prog (oFld 175 x7 2) w1 fun x8 w2 =>
 pN Tryz.prog (oLoad 3 x8) w2 fun x9 w3 =>
 pN Tryz.prog (oBin .sub 3 (.tmp 9) (.tmp 10) x9 x1) w3 fun x11 w4 =>
 ∃ I4 : Value → World → Prop,
 (pN Tryz.prog (oBin .lss 3 (.tmp 12) (.const (.int .i64 0)) x11 (.int .i64 0)) w4 fun x13 w5 =>
 pIf x13
 (pN Tryz.prog (oNil x0) w5 fun x16 w6 =>
 pN Tryz.prog (oFld 175 x16 1) w6 fun x17 w7 =>
 pN Tryz.prog (oLoad 30 x17) w7 fun x18 w8 =>
 pN Tryz.prog (oBi .len #[30] 3 [false] [x18]) w8 fun x19 w9 =>
 pN Tryz.prog (oBin .add 3 (.tmp 14) (.tmp 19) x11 x19) w9 fun x20 w10 =>
 I4 x20 w10)
 (I4 x11 w5)) ∧
 ∀ (_j4 : Env) (i5c4 : Value) (w11 : World), I4 i5c4 w11 →
 pN Tryz.prog (oNil x0) w11 fun x22 w12 =>
 pN Tryz.prog (oFld 175 x22 1) w12 fun x23 w13 =>
 pN Tryz.prog (oLoad 30 x23) w13 fun x24 w14 =>
 pN Tryz.prog (oIdx 30 x24 i5c4) w14 fun x26 w15 =>
 pN Tryz.prog (oLoad 5 x26) w15 fun x27 w16 =>
 Q x27 w16
theorem window_Window_back.calls [Pan] {x0 x1 : Value} {w : World} {Q : Value → World → Prop} (h : window_Window_back.F x0 x1 w Q) : Calls Tryz.prog 139 #[x0, x1] w (retP Q) := calls_lift mixed window_Window_back.H [x0, x1] Tryz.func139 (by kernel_rfl) (by kernel_rfl) h

end Go.Proofs.YtbgnnjfpiblkmaaGreatDoor

namespace Go.Proofs.YtbgnnjfpiblkmaaGreatDoor
open Go
namespace Z

structure W where
  size : Int
  all : List UInt8
structure W.Ok (x : W) : Prop where
  s0 : 1 ≤ x.size
  s1 : x.size ≤ 4294967295
  n : x.all.length ≤ 4611686018427387904
def W.full (x : W) : Nat := min x.all.length x.size.toNat
def W.last (x : W) (d : Nat) : UInt8 := (x.all[x.all.length - d]?).getD 0
def W.has (x : W) (d : Int) : Prop := 1 ≤ d ∧ d ≤ x.full
instance (x : W) (d : Int) : Decidable (x.has d) := by unfold W.has; exact inferInstance

def ix (at_ n d : Nat) : Nat := if d ≤ at_ then at_ - d else at_ + n - d
structure Rep (size : Nat) (all ring : List UInt8) (at_ : Nat) : Prop where
  len : ring.length = min all.length size
  le : at_ ≤ ring.length
  grow : ring.length < size → at_ = ring.length
  get : ∀ d, 1 ≤ d → d ≤ ring.length → ring[ix at_ ring.length d]? = all[all.length - d]?
theorem Rep.new (size : Nat) : Rep size [] [] 0 := ⟨by simp, by simp, fun _ => rfl, fun d h1 h2 => by simp at h2; omega⟩
theorem Rep.small {size : Nat} {all ring : List UInt8} {at_ : Nat} (h : Rep size all ring at_) (hg : ring.length < size) : ring = all ∧ at_ = ring.length := by
  have h1 := h.len
  have h2 := h.grow hg
  refine ⟨List.ext_getElem? fun i => ?_, h2⟩
  by_cases hi : i < ring.length
  · have := h.get (ring.length - i) (by omega) (by omega)
    rw [ix, if_pos (by omega), h2] at this
    rw [show ring.length - (ring.length - i) = i from by omega] at this
    rw [this]; congr 1; omega
  · rw [List.getElem?_eq_none (by omega), List.getElem?_eq_none (by omega)]
theorem Rep.grown {size : Nat} {all ring : List UInt8} {at_ : Nat} (h : Rep size all ring at_) (g : List UInt8) (hg : 0 < g.length) (hl : ring.length + g.length ≤ size) : Rep size (all ++ g) (ring ++ g) (ring ++ g).length := by
  obtain ⟨rfl, _⟩ := h.small (by omega)
  refine ⟨by simp; omega, Nat.le_refl _, fun _ => rfl, fun d h1 h2 => by rw [ix, if_pos h2]⟩
theorem Rep.turned {all ring : List UInt8} {at_ : Nat} (h : Rep ring.length all ring at_) (g : List UInt8) (hl : at_ + g.length ≤ ring.length) : Rep ring.length (all ++ g) (ring.take at_ ++ g ++ ring.drop (at_ + g.length)) (at_ + g.length) := by
  have hlen := h.len
  have hl2 : (ring.take at_ ++ g ++ ring.drop (at_ + g.length)).length = ring.length := by simp; omega
  refine ⟨by rw [hl2]; simp; omega, by rw [hl2]; exact hl, fun h' => by rw [hl2] at h'; omega, fun d h1 h2 => ?_⟩
  rw [hl2] at h2 ⊢
  by_cases hd : d ≤ g.length
  · rw [ix, if_pos (by omega), List.append_assoc, List.getElem?_append_right (by simp; omega), List.length_take, Nat.min_eq_left (by omega), List.getElem?_append_left (by omega)]
    rw [List.getElem?_append_right (by simp; omega), List.length_append]
    congr 1; omega
  · have h3 := h.get (d - g.length) (by omega) (by omega)
    have e2 : (all ++ g)[(all ++ g).length - d]? = all[all.length - (d - g.length)]? := by
      have e3 : (all ++ g).length - d = all.length - (d - g.length) := by simp; omega
      rw [e3, List.getElem?_append_left (by omega)]
    rw [e2, ← h3]
    unfold ix
    by_cases h4 : d ≤ at_ + g.length
    · rw [if_pos h4, if_pos (by omega), List.append_assoc, List.getElem?_append_left (by simp; omega), List.getElem?_take, if_pos (by omega)]
      congr 1; omega
    · rw [if_neg h4, if_neg (by omega), List.getElem?_append_right (by simp; omega), List.getElem?_drop]
      simp only [List.length_append, List.length_take]
      congr 1; omega
theorem Rep.wrap {all ring : List UInt8} (h : Rep ring.length all ring ring.length) : Rep ring.length all ring 0 :=
  ⟨h.len, Nat.zero_le _, fun h' => by omega, fun d h1 h2 => by
    have := h.get d h1 h2
    rw [ix, if_pos h2] at this
    rw [ix, if_neg (by omega), ← this, Nat.zero_add]⟩
theorem Rep.suffix {size : Nat} {all g ring : List UInt8} {at_ : Nat} {pre : List UInt8} (h : Rep size (all ++ g) ring at_) (hg : size ≤ g.length) : Rep size (all ++ (pre ++ g)) ring at_ := by
  have hl := h.len
  simp only [List.length_append] at hl
  refine ⟨by simp; omega, h.le, h.grow, fun d h1 h2 => ?_⟩
  rw [h.get d h1 h2, List.getElem?_append_right (by simp; omega), List.getElem?_append_right (by simp; omega), List.getElem?_append_right (by simp; omega)]
  congr 1
  simp; omega

def cpy (all : List UInt8) (d : Nat) : Nat → List UInt8
  | 0 => []
  | n + 1 => cpy all d n ++ [((all ++ cpy all d n)[(all ++ cpy all d n).length - d]?).getD 0]
theorem cpy_len (all : List UInt8) (d n : Nat) : (cpy all d n).length = n := by
  induction n with
  | zero => rfl
  | succ n ih => simp [cpy, ih]

end Z
end Go.Proofs.YtbgnnjfpiblkmaaGreatDoor

namespace Go.Proofs.YtbgnnjfpiblkmaaGreatDoor
open Go
theorem run_min {P : Program} {t1 t2 ty : TypeId} {k : IntKind} {a b : Int} {cs : List Bool} (w : World) : (oBi .min #[t1, t2] ty cs [.int k a, .int k b]).run P w = .ok (.value (.int k (min a b))) w := by
  by_cases h : b < a
  · have e : min a b = b := by omega
    simp [oBi, builtin, Builtin.min_, Builtin.min2, h, e]
  · have e : min a b = a := by omega
    simp [oBi, builtin, Builtin.min_, Builtin.min2, h, e]
theorem pA_minv [Pan] {P : Program} {t1 t2 ty : TypeId} {k : IntKind} {a b c : Int} {cs : List Bool} {J : Value → Prop} (h : min a b = c) (hk : J (.int k c)) : pA P (oBi .min #[t1, t2] ty cs [.int k a, .int k b]) J :=
  ⟨_, fun w => run_min w, by rw [h]; exact hk⟩
attribute [local irreducible] oMv oV oU oCall oCallV oBi oBin oUn oLoad oStore oNil oFld oField oIdx oIndex oPick oAlloc oBox oBuild oBs oConv oMk oSl oExt oFn oIface oMap oLook oMapUp oRange oNext oEntry oInv oAssert oPanic oRes pN pA pL pDr pIf gA pGd

def WinR (b : Nat) (size : Int) (ring : List UInt8) (at_ : Nat) (pos : Nat) : HA := fun h => ∃ s : Sl, Sats [cel b ⟨175, [.int .i64 size, .slice s.a ring.length s.c, .int .i64 at_, .int .i64 pos]⟩, rows cd_uint8 s ring] h
def Win (b : Nat) (x : Z.W) : HA := fun h => ∃ y : List UInt8 × Nat, (Z.Rep x.size.toNat x.all y.1 y.2 ∧ x.Ok) ∧ WinR b x.size y.1 y.2 x.all.length h

section
variable {E w : World} {M : List HA} {Q : Value → World → Prop} {b : Nat} {size : Int} {ring : List UInt8} {at_ pos : Nat} {x : Z.W}

theorem WinR.opn (hS : Sat E w (WinR b size ring at_ pos :: M)) : ∃ s : Sl, Sat E w (cel b ⟨175, [.int .i64 size, .slice s.a ring.length s.c, .int .i64 at_, .int .i64 pos]⟩ :: rows cd_uint8 s ring :: M) := by
  obtain ⟨s, hS⟩ := hS.ex
  exact ⟨s, hS.open_ (M := [_, _]) fun _ h => h⟩
theorem WinR.shut {s : Sl} {L N : List HA} {o : Ob} (hS : Sat E w L) [h1 : Fnd (cel b) L o N] [h2 : Fnd (rows cd_uint8 s) N ring M] (ho : o = ⟨175, [.int .i64 size, .slice s.a ring.length s.c, .int .i64 at_, .int .i64 pos]⟩) : Sat E w (WinR b size ring at_ pos :: M) := by
  subst ho
  exact Sat.shut (M := [_, _]) (hS.fd2 (cel b) (rows cd_uint8 s)) fun _ h => ⟨s, h⟩
theorem Win.opn (hS : Sat E w (Win b x :: M)) : ∃ (ring : List UInt8) (at_ : Nat), Z.Rep x.size.toNat x.all ring at_ ∧ x.Ok ∧ Sat E w (WinR b x.size ring at_ x.all.length :: M) := by
  obtain ⟨y, hS⟩ := hS.ex
  have h := hS
  obtain ⟨h1, ⟨hA, _⟩, _⟩ := h.head
  exact ⟨y.1, y.2, hA.1, hA.2, hS.weaken fun _ h => h.2⟩
theorem Win.shut (hS : Sat E w (WinR b x.size ring at_ pos :: M)) (hr : Z.Rep x.size.toNat x.all ring at_) (ho : x.Ok) (hp : pos = x.all.length) : Sat E w (Win b x :: M) := by
  subst hp
  exact hS.weaken fun _ h => ⟨(ring, at_), ⟨hr, ho⟩, h⟩

theorem in_ok (hS : Sat E w (WinR b size ring at_ pos :: M)) (d : Int) (hQ : ∀ w, Sat E w (WinR b size ring at_ pos :: M) → Q (.bool (decide (1 ≤ d ∧ d ≤ ring.length))) w) :
    Calls Tryz.prog 138 #[.pointer (some ⟨b, 0, none⟩), .int .i64 d] w (retP Q) := by
  refine window_Window_in.calls ?_
  unfold window_Window_in.F
  obtain ⟨s, hS⟩ := WinR.opn hS
  repeat' (first | ((first | refine pN_leq_s ?_ ?_ | refine pN_geq_s ?_ ?_) <;> intro hc <;> try (exfalso; omega)) | refine pGd_go (by rfl) ?_ | refine pGd_no (by rfl) ?_ | refine pN_l hS (by first | rfl | assumption) ?_ | refine pN_v (hk := ?_) | fail)
  · rw [decide_eq_true (by omega)] at hQ; exact hQ _ (WinR.shut (s := s) hS rfl)
  · rw [decide_eq_false (by omega)] at hQ; exact hQ _ (WinR.shut (s := s) hS rfl)
  · rw [decide_eq_false (by omega)] at hQ; exact hQ _ (WinR.shut (s := s) hS rfl)

theorem back_ok (hS : Sat E w (WinR b size ring at_ pos :: M)) (d : Nat) (h1 : 1 ≤ d) (h2 : d ≤ ring.length) (h3 : at_ ≤ ring.length) {c : UInt8} (hc : ring[Z.ix at_ ring.length d]? = some c) (hQ : ∀ w, Sat E w (WinR b size ring at_ pos :: M) → Q (bv c) w) :
    Calls Tryz.prog 139 #[.pointer (some ⟨b, 0, none⟩), .int .i64 d] w (retP Q) := by
  refine window_Window_back.calls ?_
  unfold window_Window_back.F
  obtain ⟨s, hS⟩ := WinR.opn hS
  have hlen := rows_len (C := cd_uint8) s hS
  have hix : Z.ix at_ ring.length d < ring.length := (List.getElem?_eq_some_iff.1 hc).1
  repeat' (first | refine pN_l hS (by first | rfl | assumption) ?_ | refine pN_v (hk := ?_) | fail)
  refine ⟨fun v w => v = .int .i64 (Z.ix at_ ring.length d) ∧ Sat E w (cel b ⟨175, [.int .i64 size, .slice s.a ring.length s.c, .int .i64 at_, .int .i64 pos]⟩ :: rows cd_uint8 s ring :: M), ?_, ?_⟩
  · repeat' (first | (refine pN_lss_s ?_ ?_ <;> intro hc <;> try (exfalso; omega)) | refine pIf_t ?_ | refine pIf_f ?_ | refine pN_l hS (by first | rfl | assumption) ?_ | refine pN_v (hk := ?_) | fail)
    · refine ⟨?_, hS.to⟩
      rw [Z.ix, if_neg (by omega)]; congr 1; omega
    · refine ⟨?_, hS.to⟩
      rw [Z.ix, if_pos (by omega)]; congr 1; omega
  clear hS
  rintro _ _ w ⟨rfl, hS⟩
  repeat' (first | refine pN_l hS (by first | rfl | assumption) ?_ | refine pN_ld1 ha hS ?_ | refine pN_ixk hS _ (by first | rfl | (exact (Int.toNat_of_nonneg (by omega)).symm)) (by first | rfl | omega | simpa only [go_sem] using True.intro | (simp only [go_sem]; omega)) (by assumption) fun a ha hel => ?_ | refine pN_v (hk := ?_) | fail)
  exact hQ _ (WinR.shut (s := s) hS rfl)

theorem Last_in (hS : Sat E w (Win b x :: M)) (d : Int) (hd : x.has d) (hQ : ∀ w, Sat E w (Win b x :: M) → Q (.tuple #[bv (x.last d.toNat), .int .i64 0]) w) :
    Calls Tryz.prog 101 #[.pointer (some ⟨b, 0, none⟩), .int .i64 d] w (retP Q) := by
  refine window_Window_Last.calls ?_
  unfold window_Window_Last.F
  obtain ⟨ring, at_, hr, ho, hS⟩ := Win.opn hS
  obtain ⟨d1, d2⟩ := hd
  unfold Z.W.full at d2
  rw [← hr.len] at d2
  obtain ⟨n, rfl⟩ : ∃ n : Nat, d = n := ⟨d.toNat, by omega⟩
  rw [Int.toNat_natCast] at hQ
  have hg := hr.get n (by omega) (by omega)
  have hl := hr.len
  have hc : x.all[x.all.length - n]? = some (x.last n) := by
    rw [Z.W.last, List.getElem?_eq_getElem (show x.all.length - n < x.all.length by omega)]; rfl
  rw [hc] at hg
  have t1 : decide (1 ≤ (n : Int) ∧ (n : Int) ≤ ring.length) = true := decide_eq_true (by omega)
  refine pc_window_Window_in (in_ok hS n fun w hS => ?_)
  rw [t1]
  repeat' (first | (refine pc_window_Window_back (back_ok hS n (by omega) (by omega) hr.le hg ?_); clear hS; intro w hS) | refine pIf_f ?_ | refine pN_v (hk := ?_) | fail)
  exact hQ _ (Win.shut hS hr ho rfl)
theorem Last_no (hS : Sat E w (Win b x :: M)) (d : Int) (hd : ¬ x.has d) (hQ : ∀ w, Sat E w (Win b x :: M) → Q (.tuple #[bv 0, .int .i64 7]) w) :
    Calls Tryz.prog 101 #[.pointer (some ⟨b, 0, none⟩), .int .i64 d] w (retP Q) := by
  refine window_Window_Last.calls ?_
  unfold window_Window_Last.F
  obtain ⟨ring, at_, hr, ho, hS⟩ := Win.opn hS
  unfold Z.W.has Z.W.full at hd
  rw [← hr.len] at hd
  refine pc_window_Window_in (in_ok hS d fun w hS => ?_)
  rw [decide_eq_false hd]
  repeat' (first | refine pIf_t ?_ | refine pN_v (hk := ?_) | fail)
  exact hQ _ (Win.shut hS hr ho rfl)

theorem Pos_ok (hS : Sat E w (Win b x :: M)) (hQ : ∀ w, Sat E w (Win b x :: M) → Q (.int .i64 x.all.length) w) :
    Calls Tryz.prog 103 #[.pointer (some ⟨b, 0, none⟩)] w (retP Q) := by
  refine window_Window_Pos.calls ?_
  unfold window_Window_Pos.F
  obtain ⟨ring, at_, hr, ho, hS⟩ := Win.opn hS
  obtain ⟨s, hS⟩ := WinR.opn hS
  repeat' (first | refine pN_l hS (by first | rfl | assumption) ?_ | refine pN_v (hk := ?_) | fail)
  exact hQ _ (Win.shut (WinR.shut (s := s) hS rfl) hr ho rfl)

theorem WClear_ok (hS : Sat E w (Win b x :: M)) (hQ : ∀ w, Sat E w (Win b ⟨x.size, []⟩ :: M) → Q (.tuple #[]) w) :
    Calls Tryz.prog 47 #[.pointer (some ⟨b, 0, none⟩)] w (retP Q) := by
  refine window_Window_Clear.calls ?_
  unfold window_Window_Clear.F
  obtain ⟨ring, at_, hr, ho, hS⟩ := Win.opn hS
  obtain ⟨s, hS⟩ := WinR.opn hS
  repeat' (first | refine pN_l hS (by first | rfl | assumption) ?_ | (refine pN_sa hS (by rfl) (by rfl) (by rfl) ?_; clear hS; intro w hS; try dsimp only at hS) | refine pN_v (hk := ?_) | fail)
  have hS : Sat E w (rows cd_uint8 ⟨none, 0⟩ [] :: cel b _ :: rows cd_uint8 s ring :: M) := hS.nil 5 1
  exact hQ _ (Win.shut (x := ⟨x.size, []⟩) (WinR.shut (b := b) (s := ⟨none, 0⟩) (size := x.size) (ring := []) (at_ := 0) (pos := 0) hS rfl) (Z.Rep.new _) ⟨ho.s0, ho.s1, Nat.zero_le _⟩ rfl).to

theorem WNew_in (hS : Sat E w M) (n : Int) (h0 : 1 ≤ n) (h1 : n ≤ 4294967295) (hQ : ∀ b w, Sat E w (Win b ⟨n, []⟩ :: M) → Q (.tuple #[.pointer (some ⟨b, 0, none⟩), .int .i64 0]) w) :
    Calls Tryz.prog 42 #[.int .i64 n] w (retP Q) := by
  refine window_New.calls ?_
  unfold window_New.F
  repeat' (first | ((first | refine pN_lss_s ?_ ?_ | refine pN_gtr_s ?_ ?_) <;> intro hc <;> try (exfalso; omega)) | refine pIf_f ?_ | refine pGd_go (by rfl) ?_ | (refine pN_bx hS (by rfl) ?_; clear hS; intro a w hS) | refine pN_v (hk := ?_) | fail)
  have hS : Sat E w (rows cd_uint8 ⟨none, 0⟩ [] :: cel a _ :: M) := hS.nil 5 1
  exact hQ _ _ (Win.shut (x := ⟨n, []⟩) (WinR.shut (b := a) (s := ⟨none, 0⟩) (size := n) (ring := []) (at_ := 0) (pos := 0) hS rfl) (Z.Rep.new _) ⟨h0, h1, Nat.zero_le _⟩ rfl)
theorem WNew_no (n : Int) (h : ¬ (1 ≤ n ∧ n ≤ 4294967295)) (hQ : Q (.tuple #[.pointer none, .int .i64 7]) w) :
    Calls Tryz.prog 42 #[.int .i64 n] w (retP Q) := by
  refine window_New.calls ?_
  unfold window_New.F
  repeat' (first | ((first | refine pN_lss_s ?_ ?_ | refine pN_gtr_s ?_ ?_) <;> intro hc <;> try (exfalso; omega)) | refine pIf_t ?_ | refine pGd_go (by rfl) ?_ | refine pGd_no (by rfl) ?_ | refine pN_v (hk := ?_) | fail)
  all_goals exact hQ

theorem WPut_ok {s0 : Sl} {l : List UInt8} (hS : Sat E w (Win b x :: M)) [hl : Rds cd_uint8 M s0 l] (hn : x.all.length + l.length ≤ 4611686018427387904) (hQ : ∀ w, Sat E w (Win b ⟨x.size, x.all ++ l⟩ :: M) → Q (.tuple #[]) w) :
    Calls Tryz.prog 46 #[.pointer (some ⟨b, 0, none⟩), .slice s0.a l.length s0.c] w (retP Q) := by
  refine window_Window_Put.calls ?_
  unfold window_Window_Put.F
  obtain ⟨ring, at_, hr, ho, hS⟩ := Win.opn hS
  obtain ⟨s, hS⟩ := WinR.opn hS
  have o0 := ho.s0
  have o1 := ho.s1
  have on := ho.n
  have hlen := hr.len
  have hle := hr.le
  have e0 : ((x.all.length + l.length : Nat) : Int) = (x.all.length : Int) + (l.length : Int) := by omega
  repeat' (first | refine pN_l hS (by first | rfl | assumption) ?_ | (refine pN_s hS (by first | exact Nat.le_of_ble_eq_true rfl | assumption) (by rfl) ?_; clear hS; intro w hS; try simp only [List.set_cons_zero, List.set_cons_succ] at hS) | refine pN_v (hk := ?_) | fail)
  refine ⟨fun v w => ∃ (s1 : Sl) (g : List UInt8), v = .slice s1.a g.length s1.c ∧ (∀ L, Rds cd_uint8 L s0 l → Rds cd_uint8 L s1 g) ∧ (g = l ∨ ∃ pre, l = pre ++ g ∧ g.length = x.size.toNat) ∧ g.length ≤ x.size.toNat ∧
    Sat E w (cel b ⟨175, [.int .i64 x.size, .slice s.a ring.length s.c, .int .i64 at_, .int .i64 (x.all.length + l.length : Nat)]⟩ :: rows cd_uint8 s ring :: M), ?_, ?_⟩
  · repeat' (first | (refine pN_sl1 (C := cd_uint8) (s := s0) (l := l) hS (l.length - x.size.toNat) (by omega) rfl (by omega) ?_; intro s1 hp) | (refine pN_gtr_s ?_ ?_ <;> intro hc <;> try (exfalso; omega)) | refine pIf_t ?_ | refine pIf_f ?_ | refine pN_l hS (by first | rfl | assumption) ?_ | refine pN_v (hk := ?_) | fail)
    · refine ⟨s1, l.drop (l.length - x.size.toNat), by rw [List.length_drop], fun L h => hp.rd L h, .inr ⟨l.take (l.length - x.size.toNat), (List.take_append_drop _ _).symm, by rw [List.length_drop]; omega⟩, by rw [List.length_drop]; omega, ?_⟩
      rw [e0]; exact hS.to
    · exact ⟨s0, l, rfl, fun L h => h, .inl rfl, by omega, by rw [e0]; exact hS.to⟩
  clear hS
  rintro _ _ w ⟨s1, g, rfl, hrd, hg, hgl, hS⟩
  haveI hl1 := hrd M hl
  obtain ⟨gr, hgr⟩ : ∃ gr : Nat, gr = min g.length (x.size.toNat - ring.length) := ⟨_, rfl⟩
  have hgr2 : min (g.length : Int) (x.size - ring.length) = gr := by omega
  refine ⟨fun v w => ∃ (s2 s' : Sl) (g1 g2 ring2 : List UInt8) (at2 : Nat), v = .slice s2.a g2.length s2.c ∧ (∀ L, Rds cd_uint8 L s0 l → Rds cd_uint8 L s2 g2) ∧ g = g1 ++ g2 ∧ Z.Rep x.size.toNat (x.all ++ g1) ring2 at2 ∧ (g2 ≠ [] → ring2.length = x.size.toNat) ∧
    Sat E w (cel b ⟨175, [.int .i64 x.size, .slice s'.a ring2.length s'.c, .int .i64 at2, .int .i64 (x.all.length + l.length : Nat)]⟩ :: rows cd_uint8 s' ring2 :: M), ?_, ?_⟩
  · repeat' (first | refine pA_minv hgr2 ?_ | (refine pA_slhw (C := cd_uint8) (s := s1) (l := g) hS gr rfl rfl (by omega) ?_; intro hsub) | (refine pN_sl1 (C := cd_uint8) (s := s1) (l := g) hS gr rfl rfl (by omega) ?_; intro s2 hp) | (refine pN_app (l := ring) (m := g.take gr) (s2 := s1.sub 0 cd_uint8.size) hS rfl (by rw [List.length_take]; omega) (by rw [List.length_take]; omega) ?_; clear hS; intro s3 w hS) | (refine pN_gtr_s ?_ ?_ <;> intro hc <;> try (exfalso; omega)) | refine pIf_t ?_ | refine pIf_f ?_ | refine pN_l hS (by first | rfl | assumption) ?_ | refine pL_l hS (by first | rfl | assumption) ?_ | (refine pN_s hS (by first | exact Nat.le_of_ble_eq_true rfl | assumption) (by rfl) ?_; clear hS; intro w hS; try simp only [List.set_cons_zero, List.set_cons_succ] at hS) | (refine pDr_go hS ?_; clear hS; intro w hS) | refine ⟨trivial, ?_⟩ | refine pN_v (hk := ?_) | refine pA_v (hk := ?_) | fail)
    · refine ⟨s2, s3, g.take gr, g.drop gr, ring ++ g.take gr, (ring ++ g.take gr).length, by rw [List.length_drop], fun L h => hp.rd L (hrd L h), (List.take_append_drop _ _).symm, hr.grown _ (by rw [List.length_take]; omega) (by rw [List.length_take]; omega), fun hne => ?_, ?_⟩
      · have : (g.drop gr).length ≠ 0 := fun h => hne (List.length_eq_zero_iff.1 h)
        rw [List.length_drop] at this
        rw [List.length_append, List.length_take]
        omega
      · rw [show ((ring ++ g.take gr).length : Int) = ((ring.length + min gr g.length : Nat) : Int) from by rw [List.length_append, List.length_take]]
        exact hS.to
    · refine ⟨s1, s, [], g, ring, at_, rfl, hrd, rfl, by rw [List.append_nil]; exact hr, fun hne => ?_, hS.to⟩
      have : g.length ≠ 0 := fun h => hne (List.length_eq_zero_iff.1 h)
      omega
  clear hS
  rintro _ _ w ⟨s2, s3, g1, g2, ring2, at2, rfl, hrd2, hg12, hrep, hfull, hS⟩
  refine ⟨fun v w => ∃ (s2 : Sl) (g1 g2 ring2 : List UInt8) (at2 : Nat), v = .slice s2.a g2.length s2.c ∧ (∀ L, Rds cd_uint8 L s0 l → Rds cd_uint8 L s2 g2) ∧ g = g1 ++ g2 ∧ Z.Rep x.size.toNat (x.all ++ g1) ring2 at2 ∧ (g2 ≠ [] → ring2.length = x.size.toNat) ∧
    Sat E w (cel b ⟨175, [.int .i64 x.size, .slice s3.a ring2.length s3.c, .int .i64 at2, .int .i64 (x.all.length + l.length : Nat)]⟩ :: rows cd_uint8 s3 ring2 :: M), fun v _ => match v with | .slice _ n _ => n | _ => 0,
    ⟨s2, g1, g2, ring2, at2, rfl, hrd2, hg12, hrep, hfull, hS⟩, ?_⟩
  clear hS hrep hfull hg12 hrd2 g1 g2 ring2 at2 s2
  rintro _ _ w ⟨s2, g1, g2, ring2, at2, rfl, hrd2, hg12, hrep, hfull, hS⟩
  haveI hl2 := hrd2 M hl
  have hgl12 : g.length = g1.length + g2.length := by rw [hg12, List.length_append]
  have hrle := hrep.le
  have hrl := hrep.len
  by_cases hne : g2 = []
  · subst hne
    repeat' (first | (refine pN_gtr_s ?_ ?_ <;> intro hc <;> try (exfalso; omega)) | refine pIf_f ?_ | refine pN_v (hk := ?_) | fail)
    refine hQ _ (Win.shut (x := ⟨x.size, x.all ++ l⟩) (WinR.shut (s := s3) hS rfl) ?_ ⟨o0, o1, by rw [List.length_append]; exact hn⟩ (by rw [List.length_append]))
    rw [List.append_nil] at hg12
    subst hg12
    rcases hg with rfl | ⟨pre, rfl, hlen2⟩
    · exact hrep
    · exact Z.Rep.suffix hrep (show x.size.toNat ≤ g.length by omega)
  · have h0 : g2.length ≠ 0 := fun h => hne (List.length_eq_zero_iff.1 h)
    have hf := hfull hne
    repeat' (first | (refine pN_gtr_s ?_ ?_ <;> intro hc <;> try (exfalso; omega)) | refine pIf_t ?_ | refine pN_v (hk := ?_) | fail)
    refine ⟨fun w => ∃ at3 : Nat, at3 < ring2.length ∧ Z.Rep x.size.toNat (x.all ++ g1) ring2 at3 ∧ Sat E w (cel b ⟨175, [.int .i64 x.size, .slice s3.a ring2.length s3.c, .int .i64 at3, .int .i64 (x.all.length + l.length : Nat)]⟩ :: rows cd_uint8 s3 ring2 :: M), ?_, ?_⟩
    · repeat' (first | (refine pA_eql_s ?_ ?_ <;> intro hc <;> try (exfalso; first | omega | exact hc rfl | exact hc (by assumption) | exact absurd hc (by assumption))) | refine pIf_t ?_ | refine pIf_f ?_ | refine pL_l hS (by first | rfl | assumption) ?_ | (refine pN_s hS (by first | exact Nat.le_of_ble_eq_true rfl | assumption) (by rfl) ?_; clear hS; intro w hS; try simp only [List.set_cons_zero, List.set_cons_succ] at hS) | (refine pDr_go hS ?_; clear hS; intro w hS) | refine pN_v (hk := ?_) | refine pA_v (hk := ?_) | fail)
      · refine ⟨0, by omega, ?_, hS.to⟩
        have e1 : at2 = ring2.length := by omega
        rw [← hf, e1] at hrep
        rw [← hf]
        exact hrep.wrap
      · exact ⟨at2, by omega, hrep, hS.to⟩
    clear hS
    rintro _ w ⟨at3, ha3, hrep3, hS⟩
    have hdn : (g2.take (ring2.length - at3)).length = min g2.length (ring2.length - at3) := by rw [List.length_take, Nat.min_comm]
    repeat' (first | (refine pA_sl1w (C := cd_uint8) (s := s3) (l := ring2) hS at3 rfl rfl (by omega) ?_; intro hsub) | (refine pN_cp (C := cd_uint8) (s := s3) (s2 := s2) (l := ring2) (r := g2) (dn := ring2.length - at3) hS at3 (by omega) (by omega) rfl ?_; clear hS; intro w hS) | (refine pN_sl1 (C := cd_uint8) (s := s2) (l := g2) hS (min g2.length (ring2.length - at3)) rfl rfl (by omega) ?_; intro s4 hp) | refine pN_l hS (by first | rfl | assumption) ?_ | refine pL_l hS (by first | rfl | assumption) ?_ | (refine pN_s hS (by first | exact Nat.le_of_ble_eq_true rfl | assumption) (by rfl) ?_; clear hS; intro w hS; try simp only [List.set_cons_zero, List.set_cons_succ] at hS) | (refine pDr_go hS ?_; clear hS; intro w hS) | refine ⟨trivial, ?_⟩ | refine pN_v (hk := ?_) | refine pA_v (hk := ?_) | fail)
    obtain ⟨k, hk⟩ : ∃ k, k = min g2.length (ring2.length - at3) := ⟨_, rfl⟩
    have h5 : Z.Rep ring2.length (x.all ++ g1) ring2 at3 := by rw [hf]; exact hrep3
    have h6 := h5.turned (g2.take (ring2.length - at3)) (by rw [hdn]; omega)
    have hpl := putL_len ring2 at3 (g2.take (ring2.length - at3)) (by rw [hdn]; omega)
    have e5 : g2.take (ring2.length - at3) ++ g2.drop k = g2 := by
      by_cases hle2 : ring2.length - at3 ≤ g2.length
      · rw [show k = ring2.length - at3 from by omega, List.take_append_drop]
      · rw [List.take_of_length_le (by omega), List.drop_of_length_le (by omega), List.append_nil]
    rw [hdn, ← hk] at h6
    rw [← hk] at hS hp ⊢
    refine ⟨⟨s4, g1 ++ g2.take (ring2.length - at3), g2.drop k, putL ring2 at3 (g2.take (ring2.length - at3)), at3 + k, by rw [List.length_drop], fun L h => hp.rd L (hrd2 L h), by rw [List.append_assoc, e5]; exact hg12, ?_, fun _ => by rw [hpl]; exact hf, ?_⟩, by simp only; omega⟩
    · rw [← hf, ← List.append_assoc, putL, hdn, ← hk]
      exact h6
    · rw [hpl, show ((at3 + k : Nat) : Int) = (at3 : Int) + (k : Int) from by omega]
      exact hS.to

theorem Copy_no (hS : Sat E w (Win b x :: M)) (d n : Int) (h : ¬ (x.has d ∧ 0 ≤ n ∧ n ≤ 273)) (hQ : ∀ w, Sat E w (Win b x :: M) → Q (.tuple #[.slice none 0 0, .int .i64 7]) w) :
    Calls Tryz.prog 93 #[.pointer (some ⟨b, 0, none⟩), .int .i64 d, .int .i64 n] w (retP Q) := by
  refine window_Window_Copy.calls ?_
  unfold window_Window_Copy.F
  obtain ⟨ring, at_, hr, ho, hS⟩ := Win.opn hS
  unfold Z.W.has Z.W.full at h
  rw [← hr.len] at h
  refine pc_window_Window_in (in_ok hS d fun w hS => ?_)
  by_cases hd : 1 ≤ d ∧ d ≤ ring.length
  · rw [decide_eq_true hd]
    repeat' (first | ((first | refine pN_lss_s ?_ ?_ | refine pN_gtr_s ?_ ?_) <;> intro hc <;> try (exfalso; omega)) | refine pIf_t ?_ | refine pGd_go (by rfl) ?_ | refine pGd_no (by rfl) ?_ | refine pN_v (hk := ?_) | fail)
    all_goals exact hQ _ (Win.shut hS hr ho rfl)
  · rw [decide_eq_false hd]
    repeat' (first | refine pIf_t ?_ | refine pGd_no (by rfl) ?_ | refine pN_v (hk := ?_) | fail)
    all_goals exact hQ _ (Win.shut hS hr ho rfl)

theorem Copy_in (hS : Sat E w (Win b x :: M)) (d n : Nat) (hd : x.has d) (hn : n ≤ 273) (hb : x.all.length + n ≤ 4611686018427387904)
    (hQ : ∀ s w, Sat E w (rows cd_uint8 s (Z.cpy x.all d n) :: Win b ⟨x.size, x.all ++ Z.cpy x.all d n⟩ :: M) → Q (.tuple #[.slice s.a n s.c, .int .i64 0]) w) :
    Calls Tryz.prog 93 #[.pointer (some ⟨b, 0, none⟩), .int .i64 d, .int .i64 n] w (retP Q) := by
  refine window_Window_Copy.calls ?_
  unfold window_Window_Copy.F
  obtain ⟨ring, at_, hr, ho, hS⟩ := Win.opn hS
  have hd' := hd
  unfold Z.W.has Z.W.full at hd'
  rw [← hr.len] at hd'
  refine pc_window_Window_in (in_ok hS d fun w hS => ?_)
  rw [decide_eq_true hd']
  have hS := Win.shut hS hr ho rfl
  clear hr hd'
  repeat' (first | ((first | refine pN_lss_s ?_ ?_ | refine pN_gtr_s ?_ ?_) <;> intro hc <;> try (exfalso; omega)) | refine pIf_f ?_ | refine pGd_go (by rfl) ?_ | (refine pN_mk0 hS _ (by first | rfl | (exact (Int.toNat_of_nonneg (by omega)).symm)) (by first | omega | (simp only [go_sem]; omega)) ?_; clear hS; intro s w hS) | refine pN_v (hk := ?_) | fail)
  refine ⟨fun v k w => ∃ (i : Nat) (s : Sl), v = .slice s.a i s.c ∧ k = .int .i64 i ∧ i ≤ n ∧ Sat E w (rows cd_uint8 s (Z.cpy x.all d i) :: Win b ⟨x.size, x.all ++ Z.cpy x.all d i⟩ :: M), fun _ k _ => n - (RowKit.intOf k).toNat, ⟨0, s, rfl, rfl, Nat.zero_le _, ?_⟩, ?_⟩
  · simp only [Z.cpy, List.append_nil]
    exact hS.to
  clear hS
  rintro _ _ _ w ⟨i, s, rfl, rfl, hi, hS⟩
  have hcl := Z.cpy_len x.all d i
  by_cases hlt : i < n
  · obtain ⟨ring, at_, hr, ho', hS⟩ := Win.opn (hS.fd (Win b))
    have hlen := hr.len
    have hdr : d ≤ ring.length := by
      obtain ⟨_, h2⟩ := hd
      unfold Z.W.full at h2
      simp only [List.length_append] at hlen
      omega
    have d1 := hd.1
    have hg := hr.get d (by omega) hdr
    obtain ⟨c, hc⟩ : ∃ c, (x.all ++ Z.cpy x.all d i)[(x.all ++ Z.cpy x.all d i).length - d]? = some c := ⟨_, List.getElem?_eq_getElem (by simp only at hlen ⊢; omega)⟩
    simp only at hg
    rw [hc] at hg
    have e1 : Z.cpy x.all d (i + 1) = Z.cpy x.all d i ++ [c] := by rw [Z.cpy, hc]; rfl
    repeat' (first | (refine pN_lss_s ?_ ?_ <;> intro hc <;> try (exfalso; omega)) | refine pIf_t ?_ | fail)
    refine pc_window_Window_back (back_ok hS d (by omega) hdr hr.le hg fun w hS => ?_)
    have hS := Win.shut hS hr ho' rfl
    repeat' (first | (refine pc_window_Window_Put (WPut_ok (l := [c]) (hS.fd (Win b)) (by simp only [List.length_append, List.length_cons, List.length_nil]; omega) ?_); clear hS; intro w hS) | (refine pN_app (l := Z.cpy x.all d i) (m := [c]) hS hcl.symm rfl (by simp only [List.length_cons, List.length_nil]; omega) ?_; clear hS; intro s w hS) | (refine pN_b1 hS (by rfl) (by decide) ?_; clear hS; intro s w hS) | refine pN_v (hk := ?_) | fail)
    refine ⟨⟨i + 1, s, by rw [List.length_append, hcl]; rfl, rfl, by omega, ?_⟩, by simp [RowKit.intOf]; omega⟩
    rw [e1]
    simp only [List.append_assoc] at hS
    exact hS.to
  · obtain rfl : i = n := by omega
    repeat' (first | (refine pN_lss_s ?_ ?_ <;> intro hc <;> try (exfalso; omega)) | refine pIf_f ?_ | fail)
    exact hQ _ _ hS
end

end Go.Proofs.YtbgnnjfpiblkmaaGreatDoor

namespace Go.Proofs.YtbgnnjfpiblkmaaGreatDoor
open Go
namespace Z
def may (x : W) (s : St) (y : Y) : Int := if errY y ≠ 0 then errY y else if y.Kind = 1 then 0 else if x.has (dist s y) then 0 else 7
def made (x : W) (s : St) (y : Y) : List UInt8 := if y.Kind = 1 then [y.Byte] else cpy x.all (dist s y).toNat (size y).toNat
theorem may_err {x : W} {s : St} {y : Y} (h : may x s y = 0) : errY y = 0 := by
  unfold may at h
  by_cases he : errY y = 0
  · exact he
  · rw [if_pos he] at h; exact h
theorem may_has {x : W} {s : St} {y : Y} (h : may x s y = 0) (hk : y.Kind ≠ 1) : x.has (dist s y) := by
  have he := may_err h
  unfold may at h
  rw [if_neg (by omega), if_neg hk] at h
  by_cases hh : x.has (dist s y)
  · exact hh
  · rw [if_neg hh] at h; omega
theorem kinds {y : Y} (hy : errY y = 0) : y.Kind = 1 ∨ y.Kind = 4 ∨ y.Kind = 2 ∨ y.Kind = 3 := by
  unfold errY at hy
  by_cases h1 : y.Kind = 1 ∨ y.Kind = 4
  · rcases h1 with h1 | h1 <;> simp [h1]
  · rw [if_neg h1] at hy
    by_cases h2 : y.Kind = 2
    · simp [h2]
    · rw [if_neg h2] at hy
      by_cases h3 : y.Kind = 3
      · simp [h3]
      · rw [if_neg h3] at hy; omega
theorem err_len {y : Y} (hy : errY y = 0) (h : y.Kind = 2 ∨ y.Kind = 3) : isLen y.Len := by
  unfold errY at hy
  rw [if_neg (by omega)] at hy
  by_cases h2 : y.Kind = 2
  · rw [if_pos h2] at hy
    by_cases hc : isLen y.Len ∧ isDist y.Dist
    · exact hc.1
    · rw [if_neg hc] at hy; omega
  · rw [if_neg h2, if_pos (by omega)] at hy
    by_cases hc : isLen y.Len ∧ 0 ≤ y.Dist ∧ y.Dist ≤ 3
    · exact hc.1
    · rw [if_neg hc] at hy; omega
theorem err_rep {y : Y} (hy : errY y = 0) (h : y.Kind = 3) : 0 ≤ y.Dist ∧ y.Dist ≤ 3 := by
  unfold errY at hy
  rw [if_neg (by omega), if_neg (by omega), if_pos h] at hy
  by_cases hc : isLen y.Len ∧ 0 ≤ y.Dist ∧ y.Dist ≤ 3
  · exact hc.2
  · rw [if_neg hc] at hy; omega
theorem size_bd {y : Y} (hy : errY y = 0) : 1 ≤ size y ∧ size y ≤ 273 := by
  unfold size
  rw [if_neg (by omega)]
  by_cases h : y.Kind = 2 ∨ y.Kind = 3
  · rw [if_pos h]
    have := err_len hy h
    unfold isLen at this
    omega
  · rw [if_neg h]; omega
theorem made_len {x : W} {s : St} {y : Y} (hy : errY y = 0) : ((made x s y).length : Int) = size y := by
  have h := size_bd hy
  unfold made
  by_cases hk : y.Kind = 1
  · rw [if_pos hk]
    unfold size
    rw [if_neg (by omega), if_neg (by omega)]
    rfl
  · rw [if_neg hk, cpy_len]; omega
theorem rep0 (s : St) : s.rep 0 = s.r0 := rfl
theorem rep1 (s : St) : s.rep 1 = s.r1 := rfl
theorem rep2 (s : St) : s.rep 2 = s.r2 := rfl
theorem rep3 (s : St) : s.rep 3 = s.r3 := rfl
abbrev W.put (x : W) (l : List UInt8) : W := ⟨x.size, x.all ++ l⟩
end Z
attribute [local irreducible] oMv oV oU oCall oCallV oBi oBin oUn oLoad oStore oNil oFld oField oIdx oIndex oPick oAlloc oBox oBuild oBs oConv oMk oSl oExt oFn oIface oMap oLook oMapUp oRange oNext oEntry oInv oAssert oPanic oRes pN pA pL pDr pIf gA pGd

section
variable {E w W : World} {M N : List HA} {Q : Value → World → Prop} {b : Nat} {x : Z.W} {s : Z.St} {y : Z.Y}

theorem Copy_at (hS : Sat E w (Win b x :: M)) (d n : Int) (hd : x.has d) (h0 : 0 ≤ n) (hn : n ≤ 273) (hb : x.all.length + 273 ≤ 4611686018427387904)
    (hQ : ∀ s w, Sat E w (rows cd_uint8 s (Z.cpy x.all d.toNat n.toNat) :: Win b ⟨x.size, x.all ++ Z.cpy x.all d.toNat n.toNat⟩ :: M) → Q (.tuple #[.slice s.a (Z.cpy x.all d.toNat n.toNat).length s.c, .int .i64 0]) w) :
    Calls Tryz.prog 93 #[.pointer (some ⟨b, 0, none⟩), .int .i64 d, .int .i64 n] w (retP Q) := by
  have d1 := hd.1
  obtain ⟨d, rfl⟩ : ∃ m : Nat, d = m := ⟨d.toNat, by omega⟩
  obtain ⟨n, rfl⟩ : ∃ m : Nat, n = m := ⟨n.toNat, by omega⟩
  simp only [Int.toNat_natCast, Z.cpy_len] at hQ
  exact Copy_in hS d n hd (by omega) (by omega) hQ

theorem Apply_in (hG : Glo W) (hS : Sat E w (Win b x :: M)) [h : Has (old W) M N] (hr : s.Right) (hm : Z.may x s y = 0) (hn : x.all.length + 273 ≤ 4611686018427387904)
    (hQ : ∀ s' w, Sat E w (rows cd_uint8 s' (Z.made x s y) :: Win b (x.put (Z.made x s y)) :: M) → Q (.tuple #[.slice s'.a (Z.made x s y).length s'.c, .agg (s.next y).cells.toArray, .int .i64 0]) w) :
    Calls Tryz.prog 48 #[.pointer (some ⟨b, 0, none⟩), .agg #[.int .i64 s.num, .int .i64 s.r0, .int .i64 s.r1, .int .i64 s.r2, .int .i64 s.r3], .agg #[.int .i64 y.Kind, bv y.Byte, .int .i64 y.Len, .int .i64 y.Dist]] w (retP Q) := by
  refine symbol_Apply.calls ?_
  unfold symbol_Apply.F
  have hy := Z.may_err hm
  have hsz := Z.size_bd hy
  refine pN_bx hS (by rfl) fun x4 w hS => ?_
  refine pN_bx hS (by rfl) fun x5 w hS => ?_
  refine pN_nz hS fun x7 w hS => ?_
  refine pN_la hS (by rfl) ?_
  refine pN_la hS (by rfl) ?_
  refine pc_state_State_Next (Next_in hG hS hr hy fun w hS => ?_)
  repeat' (first | (refine pN_neq_s ?_ ?_ <;> intro hc <;> try (exfalso; first | omega | exact hc rfl | exact hc (by assumption) | exact absurd hc (by assumption))) | refine pIf_f ?_ | (refine pN_sa hS (by rfl) (by rfl) (by rfl) ?_; clear hS; intro w hS; try dsimp only at hS) | (refine pN_nz hS ?_; clear hS; intro a w hS) | refine pN_v (hk := ?_) | fail)
  refine ⟨fun e v w => ∃ s' : Sl, e = .int .i64 0 ∧ v = .slice s'.a (Z.made x s y).length s'.c ∧ Sat E w (rows cd_uint8 s' (Z.made x s y) :: cel a ⟨100, (s.next y).cells⟩ :: cel x7 ⟨100, [.int .i64 0, .int .i64 0, .int .i64 0, .int .i64 0, .int .i64 0]⟩ :: Win b (x.put (Z.made x s y)) :: M), ?_, ?_⟩
  · rcases Z.kinds hy with hk | hk | hk | hk
    · have e : Z.made x s y = [y.Byte] := by rw [Z.made, if_pos hk]
      rw [e]
      repeat' (first | (refine pc_window_Window_Put (WPut_ok (l := [y.Byte]) (hS.fd (Win b)) (by simp only [List.length_cons, List.length_nil]; omega) ?_); clear hS; intro w hS) | (refine pN_eql_s ?_ ?_ <;> intro hc <;> try (exfalso; first | omega | exact hc rfl | exact hc (by assumption) | exact absurd hc (by assumption))) | refine pIf_t ?_ | refine pN_l hS (by first | rfl | assumption) ?_ | (refine pN_b1 hS (by rfl) (by decide) ?_; clear hS; intro s w hS) | refine pN_v (hk := ?_) | fail)
      exact ⟨_, rfl, rfl, hS.to⟩
    · have e : Z.made x s y = Z.cpy x.all s.r0.toNat (1 : Int).toNat := by rw [Z.made, if_neg (by omega), Z.dist, if_neg (by omega), if_neg (by omega), Z.size, if_neg (by omega), if_neg (by omega)]
      have hh := Z.may_has hm (by omega)
      rw [Z.dist, if_neg (by omega), if_neg (by omega)] at hh
      rw [e]
      repeat' (first | (refine pc_window_Window_Copy (Copy_at (hS.fd (Win b)) _ 1 hh (by omega) (by omega) (by omega) ?_); clear hS; intro s' w hS) | (refine pN_eql_s ?_ ?_ <;> intro hc <;> try (exfalso; first | omega | exact hc rfl | exact hc (by assumption) | exact absurd hc (by assumption))) | refine pIf_t ?_ | refine pIf_f ?_ | refine pN_l hS (by first | rfl | assumption) ?_ | refine pN_v (hk := ?_) | fail)
      exact ⟨_, rfl, rfl, hS.to⟩
    · have hl := Z.err_len hy (by omega)
      unfold Z.isLen at hl
      have e : Z.made x s y = Z.cpy x.all y.Dist.toNat y.Len.toNat := by rw [Z.made, if_neg (by omega), Z.dist, if_pos (by omega), Z.size, if_neg (by omega), if_pos (by omega)]
      have hh := Z.may_has hm (by omega)
      rw [Z.dist, if_pos (by omega)] at hh
      rw [e]
      repeat' (first | (refine pc_window_Window_Copy (Copy_at (hS.fd (Win b)) _ _ hh (by omega) (by omega) (by omega) ?_); clear hS; intro s' w hS) | (refine pN_eql_s ?_ ?_ <;> intro hc <;> try (exfalso; first | omega | exact hc rfl | exact hc (by assumption) | exact absurd hc (by assumption))) | refine pIf_t ?_ | refine pIf_f ?_ | refine pN_l hS (by first | rfl | assumption) ?_ | refine pN_v (hk := ?_) | fail)
      exact ⟨_, rfl, rfl, hS.to⟩
    · have hl := Z.err_len hy (by omega)
      have hd := Z.err_rep hy hk
      unfold Z.isLen at hl
      have e : Z.made x s y = Z.cpy x.all (s.rep y.Dist).toNat y.Len.toNat := by rw [Z.made, if_neg (by omega), Z.dist, if_neg (by omega), if_pos (by omega), Z.size, if_neg (by omega), if_pos (by omega)]
      have hh := Z.may_has hm (by omega)
      rw [Z.dist, if_neg (by omega), if_pos (by omega)] at hh
      rw [e]
      have h4 : y.Dist = 0 ∨ y.Dist = 1 ∨ y.Dist = 2 ∨ y.Dist = 3 := by omega
      rcases h4 with h4 | h4 | h4 | h4
      all_goals
        rw [h4] at hS hh ⊢
        simp only [Z.rep0, Z.rep1, Z.rep2, Z.rep3] at hh ⊢
        repeat' (first | (refine pc_window_Window_Copy (Copy_at (hS.fd (Win b)) _ _ hh (by omega) (by omega) (by omega) ?_); clear hS; intro s' w hS) | (refine pN_eql_s ?_ ?_ <;> intro hc <;> try (exfalso; first | omega | exact hc rfl | exact hc (by assumption) | exact absurd hc (by assumption))) | refine pIf_t ?_ | refine pIf_f ?_ | refine pN_l hS (by first | rfl | assumption) ?_ | refine pL_l hS (by first | rfl | assumption) ?_ | (refine pDr_go hS ?_; clear hS; intro w hS) | refine ⟨trivial, ?_⟩ | refine pN_v (hk := ?_) | refine pA_v (hk := ?_) | fail)
        exact ⟨_, rfl, rfl, hS.to⟩
  · clear hS
    rintro _ _ _ w ⟨s', rfl, rfl, hS⟩
    repeat' (first | (refine pN_neq_s ?_ ?_ <;> intro hc <;> try (exfalso; first | omega | exact hc rfl | exact hc (by assumption) | exact absurd hc (by assumption))) | refine pIf_f ?_ | refine pL_la hS (by rfl) ?_ | refine pL_ra hS (by rfl) ?_ | (refine pN_sa hS (by rfl) (by rfl) (by rfl) ?_; clear hS; intro w hS; try dsimp only at hS) | (refine pDr_go hS ?_; clear hS; intro w hS) | refine ⟨trivial, ?_⟩ | fail)
    exact hQ _ _ hS.to

theorem Apply_no (hG : Glo W) (hS : Sat E w (Win b x :: M)) [h : Has (old W) M N] (hr : s.Right) (hm : Z.may x s y ≠ 0)
    (hQ : ∀ w, Sat E w (Win b x :: M) → Q (.tuple #[.slice none 0 0, .agg #[.int .i64 0, .int .i64 0, .int .i64 0, .int .i64 0, .int .i64 0], .int .i64 (Z.may x s y)]) w) :
    Calls Tryz.prog 48 #[.pointer (some ⟨b, 0, none⟩), .agg #[.int .i64 s.num, .int .i64 s.r0, .int .i64 s.r1, .int .i64 s.r2, .int .i64 s.r3], .agg #[.int .i64 y.Kind, bv y.Byte, .int .i64 y.Len, .int .i64 y.Dist]] w (retP Q) := by
  refine symbol_Apply.calls ?_
  unfold symbol_Apply.F
  refine pN_bx hS (by rfl) fun x4 w hS => ?_
  refine pN_bx hS (by rfl) fun x5 w hS => ?_
  refine pN_nz hS fun x7 w hS => ?_
  refine pN_la hS (by rfl) ?_
  refine pN_la hS (by rfl) ?_
  by_cases hy : Z.errY y = 0
  · have hk : y.Kind ≠ 1 := fun hk => hm (by rw [Z.may, if_neg (by omega), if_pos hk])
    have hh : ¬ x.has (Z.dist s y) := fun hh => hm (by rw [Z.may, if_neg (by omega), if_neg hk, if_pos hh])
    have e7 : Z.may x s y = 7 := by rw [Z.may, if_neg (by omega), if_neg hk, if_neg hh]
    rw [e7] at hQ
    refine pc_state_State_Next (Next_in hG hS hr hy fun w hS => ?_)
    repeat' (first | (refine pN_neq_s ?_ ?_ <;> intro hc <;> try (exfalso; first | omega | exact hc rfl | exact hc (by assumption) | exact absurd hc (by assumption))) | refine pIf_f ?_ | (refine pN_sa hS (by rfl) (by rfl) (by rfl) ?_; clear hS; intro w hS; try dsimp only at hS) | (refine pN_nz hS ?_; clear hS; intro a w hS) | refine pN_v (hk := ?_) | fail)
    refine ⟨fun e v w => e = .int .i64 7 ∧ Sat E w (cel a ⟨100, (s.next y).cells⟩ :: cel x7 ⟨100, [.int .i64 0, .int .i64 0, .int .i64 0, .int .i64 0, .int .i64 0]⟩ :: Win b x :: M), ?_, ?_⟩
    · rcases Z.kinds hy with hk | hk | hk | hk
      · omega
      · rw [Z.dist, if_neg (by omega), if_neg (by omega)] at hh
        repeat' (first | (refine pc_window_Window_Copy (Copy_no (hS.fd (Win b)) _ _ (fun h => hh h.1) ?_); clear hS; intro w hS) | (refine pN_eql_s ?_ ?_ <;> intro hc <;> try (exfalso; first | omega | exact hc rfl | exact hc (by assumption) | exact absurd hc (by assumption))) | refine pIf_t ?_ | refine pIf_f ?_ | refine pN_l hS (by first | rfl | assumption) ?_ | refine pN_v (hk := ?_) | fail)
        exact ⟨rfl, hS.to⟩
      · rw [Z.dist, if_pos (by omega)] at hh
        repeat' (first | (refine pc_window_Window_Copy (Copy_no (hS.fd (Win b)) _ _ (fun h => hh h.1) ?_); clear hS; intro w hS) | (refine pN_eql_s ?_ ?_ <;> intro hc <;> try (exfalso; first | omega | exact hc rfl | exact hc (by assumption) | exact absurd hc (by assumption))) | refine pIf_t ?_ | refine pIf_f ?_ | refine pN_l hS (by first | rfl | assumption) ?_ | refine pN_v (hk := ?_) | fail)
        exact ⟨rfl, hS.to⟩
      · have hd := Z.err_rep hy hk
        rw [Z.dist, if_neg (by omega), if_pos (by omega)] at hh
        have h4 : y.Dist = 0 ∨ y.Dist = 1 ∨ y.Dist = 2 ∨ y.Dist = 3 := by omega
        rcases h4 with h4 | h4 | h4 | h4
        all_goals
          rw [h4] at hS hh
          try rw [h4]
          simp only [Z.rep0, Z.rep1, Z.rep2, Z.rep3] at hh
          repeat' (first | (refine pc_window_Window_Copy (Copy_no (hS.fd (Win b)) _ _ (fun h => hh h.1) ?_); clear hS; intro w hS) | (refine pN_eql_s ?_ ?_ <;> intro hc <;> try (exfalso; first | omega | exact hc rfl | exact hc (by assumption) | exact absurd hc (by assumption))) | refine pIf_t ?_ | refine pIf_f ?_ | refine pN_l hS (by first | rfl | assumption) ?_ | refine pL_l hS (by first | rfl | assumption) ?_ | (refine pDr_go hS ?_; clear hS; intro w hS) | refine ⟨trivial, ?_⟩ | refine pN_v (hk := ?_) | refine pA_v (hk := ?_) | fail)
          exact ⟨rfl, hS.to⟩
    · clear hS
      rintro _ _ _ w ⟨rfl, hS⟩
      repeat' (first | (refine pN_neq_s ?_ ?_ <;> intro hc <;> try (exfalso; first | omega | exact hc rfl | exact hc (by assumption) | exact absurd hc (by assumption))) | refine pIf_t ?_ | refine pL_ra hS (by rfl) ?_ | (refine pN_sa hS (by rfl) (by rfl) (by rfl) ?_; clear hS; intro w hS; try dsimp only at hS) | refine pN_v (hk := ?_) | fail)
      exact hQ _ hS.to
  · have e7 : Z.may x s y = Z.errY y := by rw [Z.may, if_pos (by omega)]
    rw [e7] at hQ
    refine pc_state_State_Next (Next_no hS hr hy fun w hS => ?_)
    repeat' (first | (refine pN_neq_s ?_ ?_ <;> intro hc <;> try (exfalso; first | omega | exact hc rfl | exact hc (by assumption) | exact absurd hc (by assumption))) | refine pIf_t ?_ | refine pL_ra hS (by rfl) ?_ | (refine pN_sa hS (by rfl) (by rfl) (by rfl) ?_; clear hS; intro w hS; try dsimp only at hS) | (refine pN_nz hS ?_; clear hS; intro a w hS) | refine pN_v (hk := ?_) | fail)
    exact hQ _ hS.to
end

end Go.Proofs.YtbgnnjfpiblkmaaGreatDoor

namespace Go.Proofs.YtbgnnjfpiblkmaaGreatDoor
open Go
set_option maxRecDepth 100000

def model_New.H : Hints := { cut := fun  | _ => none, loop := fun  | _ => ([], 0), order := fun | 1 => [(0, 0), (8, 1), (9, 257), (10, 769), (11, 1793), (12, 3841), (13, 7937), (1, 16129), (2, 16131), (3, 16135), (4, 16143), (5, 16159), (6, 16191), (7, 16255), (14, 16383), (15, 32767), (16, 65535), (17, 131071), (18, 262143), (19, 524287), (20, 1048575), (21, 2097151), (22, 4194303)] | _ => [] }
def model_New.F [Pan] (x0 : Value) (w : World) (Q : Value → World → Prop) : Prop :=
 pN Tryz.prog (oBox 23 x0) w fun x1 w1 =>
 pDr w1 fun w2 =>
 pL Tryz.prog (oLoad 23 x1) w2 fun x3 =>
 pA Tryz.prog (oFld 23 x1 0) fun x11 =>
 pL Tryz.prog (oLoad 3 x11) w2 fun x12 =>
 pA Tryz.prog (oFld 23 x1 1) fun x13 =>
 pL Tryz.prog (oLoad 3 x13) w2 fun x14 =>
 pA Tryz.prog (oBin .add 3 (.tmp 12) (.tmp 14) x12 x14) fun x15 =>
 pA Tryz.prog (oBin .shl 3 (.const (.int .i64 768)) (.tmp 15) (.int .i64 768) x15) fun x16 =>
 pN Tryz.prog (oCall 43 []) w2 fun x4 w3 =>
 ((Sem.run Tryz.prog (oLoad 3 x13) w3 = .ok (.value x14) w3) ∧ (Sem.run Tryz.prog (oLoad 3 x11) w3 = .ok (.value x12) w3) ∧ (Sem.run Tryz.prog (oLoad 23 x1) w3 = .ok (.value x3) w3) ∧ True) ∧ (pN Tryz.prog (oCall 98 [(.int .i64 192)]) w3 fun x5 w4 =>
 ((Sem.run Tryz.prog (oLoad 3 x13) w4 = .ok (.value x14) w4) ∧ (Sem.run Tryz.prog (oLoad 3 x11) w4 = .ok (.value x12) w4) ∧ (Sem.run Tryz.prog (oLoad 23 x1) w4 = .ok (.value x3) w4) ∧ True) ∧ (pN Tryz.prog (oCall 98 [(.int .i64 192)]) w4 fun x6 w5 =>
 ((Sem.run Tryz.prog (oLoad 3 x13) w5 = .ok (.value x14) w5) ∧ (Sem.run Tryz.prog (oLoad 3 x11) w5 = .ok (.value x12) w5) ∧ (Sem.run Tryz.prog (oLoad 23 x1) w5 = .ok (.value x3) w5) ∧ True) ∧ (pN Tryz.prog (oCall 98 [(.int .i64 12)]) w5 fun x7 w6 =>
 ((Sem.run Tryz.prog (oLoad 3 x13) w6 = .ok (.value x14) w6) ∧ (Sem.run Tryz.prog (oLoad 3 x11) w6 = .ok (.value x12) w6) ∧ (Sem.run Tryz.prog (oLoad 23 x1) w6 = .ok (.value x3) w6) ∧ True) ∧ (pN Tryz.prog (oCall 98 [(.int .i64 12)]) w6 fun x8 w7 =>
 ((Sem.run Tryz.prog (oLoad 3 x13) w7 = .ok (.value x14) w7) ∧ (Sem.run Tryz.prog (oLoad 3 x11) w7 = .ok (.value x12) w7) ∧ (Sem.run Tryz.prog (oLoad 23 x1) w7 = .ok (.value x3) w7) ∧ True) ∧ (pN Tryz.prog (oCall 98 [(.int .i64 12)]) w7 fun x9 w8 =>
 ((Sem.run Tryz.prog (oLoad 3 x13) w8 = .ok (.value x14) w8) ∧ (Sem.run Tryz.prog (oLoad 3 x11) w8 = .ok (.value x12) w8) ∧ (Sem.run Tryz.prog (oLoad 23 x1) w8 = .ok (.value x3) w8) ∧ True) ∧ (pN Tryz.prog (oCall 98 [(.int .i64 12)]) w8 fun x10 w9 =>
 ((Sem.run Tryz.prog (oLoad 3 x13) w9 = .ok (.value x14) w9) ∧ (Sem.run Tryz.prog (oLoad 3 x11) w9 = .ok (.value x12) w9) ∧ (Sem.run Tryz.prog (oLoad 23 x1) w9 = .ok (.value x3) w9) ∧ True) ∧ (pN Tryz.prog (oCall 98 [x16]) w9 fun x17 w10 =>
 ((Sem.run Tryz.prog (oLoad 23 x1) w10 = .ok (.value x3) w10) ∧ True) ∧ (pN Tryz.prog (oCall 99 []) w10 fun x18 w11 =>
 ((Sem.run Tryz.prog (oLoad 23 x1) w11 = .ok (.value x3) w11) ∧ True) ∧ (pN Tryz.prog (oCall 99 []) w11 fun x19 w12 =>
 ((Sem.run Tryz.prog (oLoad 23 x1) w12 = .ok (.value x3) w12) ∧ True) ∧ (pN Tryz.prog (oCall 98 [(.int .i64 256)]) w12 fun x20 w13 =>
 ((Sem.run Tryz.prog (oLoad 23 x1) w13 = .ok (.value x3) w13) ∧ True) ∧ (pN Tryz.prog (oCall 98 [(.int .i64 128)]) w13 fun x21 w14 =>
 ((Sem.run Tryz.prog (oLoad 23 x1) w14 = .ok (.value x3) w14) ∧ True) ∧ (pN Tryz.prog (oCall 98 [(.int .i64 16)]) w14 fun x22 w15 =>
 ((Sem.run Tryz.prog (oLoad 23 x1) w15 = .ok (.value x3) w15) ∧ True) ∧ (pN Tryz.prog (oBuild 141 [(0, x3), (1, x4), (2, x5), (3, x6), (4, x7), (5, x8), (6, x9), (7, x10), (8, x17), (9, x18), (10, x19), (11, x20), (12, x21), (13, x22)]) w15 fun x23 w16 =>
 (True) ∧ (pN Tryz.prog (oBox 141 x23) w16 fun x24 w17 =>
 (True) ∧ (Q x24 w17)))))))))))))))
theorem model_New.calls [Pan] {x0 : Value} {w : World} {Q : Value → World → Prop} (h : model_New.F x0 w Q) : Calls Tryz.prog 61 #[x0] w (retP Q) := calls_lift mixed model_New.H [x0] Tryz.func61 (by kernel_rfl) (by kernel_rfl) h

def model_row.F [Pan] (x0 : Value) (w : World) (Q : Value → World → Prop) : Prop :=
 pN Tryz.prog (oCall 141 [x0]) w fun x7 w1 =>
 pN Tryz.prog (oExt x7 0) w1 fun x8 w2 =>
 pN Tryz.prog (oExt x7 1) w2 fun _ w3 =>
 Q x8 w3
theorem model_row.calls [Pan] {x0 : Value} {w : World} {Q : Value → World → Prop} (h : model_row.F x0 w Q) : Calls Tryz.prog 98 #[x0] w (retP Q) := calls_lift mixed .z [x0] Tryz.func98 (by kernel_rfl) (by kernel_rfl) h

def model_lengths.F [Pan]  (w : World) (Q : Value → World → Prop) : Prop :=
 pN Tryz.prog (oAlloc 139) w fun x0 w1 =>
 pN Tryz.prog (oCall 98 [(.int .i64 2)]) w1 fun x1 w2 =>
 pN Tryz.prog (oCall 98 [(.int .i64 128)]) w2 fun x2 w3 =>
 pN Tryz.prog (oCall 98 [(.int .i64 128)]) w3 fun x3 w4 =>
 pN Tryz.prog (oCall 98 [(.int .i64 256)]) w4 fun x4 w5 =>
 pN Tryz.prog (oBuild 139 [(0, x1), (1, x2), (2, x3), (3, x4)]) w5 fun x5 w6 =>
 pN Tryz.prog (oStore 139 x0 x5) w6 fun _ w7 =>
 pL Tryz.prog (oRes 139 x0) w7 fun r0 =>
 Q r0 w7
theorem model_lengths.calls [Pan]  {w : World} {Q : Value → World → Prop} (h : model_lengths.F  w Q) : Calls Tryz.prog 99 #[] w (retP Q) := calls_lift mixed .z [] Tryz.func99 (by kernel_rfl) (by kernel_rfl) h

def model_Tables_At.H : Hints := { cut := fun  | _ => none, loop := fun  | _ => ([], 0), order := fun | 1 => [(0, 0), (1, 1), (2, 3), (3, 7), (4, 15), (5, 31), (6, 63), (7, 127), (8, 255), (9, 511), (10, 1023)] | _ => [] }
def model_Tables_At.F [Pan] (x0 x1 : Value) (w : World) (Q : Value → World → Prop) : Prop :=
 pDr w fun w1 =>
 pA Tryz.prog (oNil x0) fun x6 =>
 pA Tryz.prog (oFld 141 x6 1) fun x7 =>
 pA Tryz.prog (oFld 100 x7 0) fun x8 =>
 pL Tryz.prog (oLoad 3 x8) w1 fun x9 =>
 pA Tryz.prog (oBin .mul 3 (.tmp 9) (.const (.int .i64 16)) x9 (.int .i64 16)) fun x10 =>
 pN Tryz.prog (oCall 142 [x0, x1]) w1 fun x13 w2 =>
 ((Sem.run Tryz.prog (oLoad 3 x8) w2 = .ok (.value x9) w2) ∧ True) ∧ (pA Tryz.prog (oBin .add 3 (.tmp 10) (.tmp 13) x10 x13) fun x14 =>
 Q x14 w2)
theorem model_Tables_At.calls [Pan] {x0 x1 : Value} {w : World} {Q : Value → World → Prop} (h : model_Tables_At.F x0 x1 w Q) : Calls Tryz.prog 102 #[x0, x1] w (retP Q) := calls_lift mixed model_Tables_At.H [x0, x1] Tryz.func102 (by kernel_rfl) (by kernel_rfl) h

def model_Tables_PlaceState.F [Pan] (x0 x1 : Value) (w : World) (Q : Value → World → Prop) : Prop :=
 pN Tryz.prog (oNil x0) w fun x7 w1 =>
 pN Tryz.prog (oFld 141 x7 0) w1 fun x8 w2 =>
 pN Tryz.prog (oFld 23 x8 2) w2 fun x9 w3 =>
 pN Tryz.prog (oLoad 3 x9) w3 fun x10 w4 =>
 pN Tryz.prog (oBin .shl 3 (.const (.int .i64 1)) (.tmp 10) (.int .i64 1) x10) w4 fun x11 w5 =>
 pN Tryz.prog (oBin .sub 3 (.tmp 11) (.const (.int .i64 1)) x11 (.int .i64 1)) w5 fun x12 w6 =>
 pN Tryz.prog (oBin .and 3 (.tmp 5) (.tmp 12) x1 x12) w6 fun x13 w7 =>
 Q x13 w7
theorem model_Tables_PlaceState.calls [Pan] {x0 x1 : Value} {w : World} {Q : Value → World → Prop} (h : model_Tables_PlaceState.F x0 x1 w Q) : Calls Tryz.prog 142 #[x0, x1] w (retP Q) := calls_lift mixed .z [x0, x1] Tryz.func142 (by kernel_rfl) (by kernel_rfl) h

def model_Tables_Context.H : Hints := { cut := fun  | _ => none, loop := fun  | _ => ([], 0), order := fun | 1 => [(0, 0), (1, 1), (2, 3), (3, 7), (4, 15), (5, 31), (6, 63), (7, 127), (8, 255), (9, 511), (10, 1023), (11, 2047), (12, 4095), (13, 8191), (14, 16383), (15, 32767), (16, 65535), (17, 131071), (18, 262143), (19, 524287), (20, 1048575), (21, 2097151), (22, 4194303), (23, 8388607), (24, 16777215), (25, 33554431)] | _ => [] }
def model_Tables_Context.F [Pan] (x0 x1 x2 : Value) (w : World) (Q : Value → World → Prop) : Prop :=
 pDr w fun w1 =>
 pA Tryz.prog (oNil x0) fun x10 =>
 pA Tryz.prog (oFld 141 x10 0) fun x11 =>
 pA Tryz.prog (oFld 23 x11 1) fun x12 =>
 pL Tryz.prog (oLoad 3 x12) w1 fun x13 =>
 pA Tryz.prog (oBin .shl 3 (.const (.int .i64 1)) (.tmp 13) (.int .i64 1) x13) fun x14 =>
 pA Tryz.prog (oBin .sub 3 (.tmp 14) (.const (.int .i64 1)) x14 (.int .i64 1)) fun x15 =>
 pA Tryz.prog (oBin .and 3 (.tmp 8) (.tmp 15) x1 x15) fun x16 =>
 pA Tryz.prog (oNil x0) fun x18 =>
 pA Tryz.prog (oFld 141 x18 0) fun x19 =>
 pA Tryz.prog (oFld 23 x19 0) fun x20 =>
 pL Tryz.prog (oLoad 3 x20) w1 fun x21 =>
 pA Tryz.prog (oBin .shl 3 (.tmp 16) (.tmp 21) x16 x21) fun x22 =>
 pL Tryz.prog (oConv 5 3 x2) w1 fun x24 =>
 pA Tryz.prog (oNil x0) fun x26 =>
 pA Tryz.prog (oFld 141 x26 0) fun x27 =>
 pA Tryz.prog (oFld 23 x27 0) fun x28 =>
 pL Tryz.prog (oLoad 3 x28) w1 fun x29 =>
 pA Tryz.prog (oBin .sub 3 (.const (.int .i64 8)) (.tmp 29) (.int .i64 8) x29) fun x30 =>
 pA Tryz.prog (oBin .shr 3 (.tmp 24) (.tmp 30) x24 x30) fun x31 =>
 pA Tryz.prog (oBin .add 3 (.tmp 22) (.tmp 31) x22 x31) fun x32 =>
 pN Tryz.prog (oBin .mul 3 (.const (.int .i64 768)) (.tmp 33) (.int .i64 768) x32) w1 fun x34 w2 =>
 Q x34 w2
theorem model_Tables_Context.calls [Pan] {x0 x1 x2 : Value} {w : World} {Q : Value → World → Prop} (h : model_Tables_Context.F x0 x1 x2 w Q) : Calls Tryz.prog 143 #[x0, x1, x2] w (retP Q) := calls_lift mixed model_Tables_Context.H [x0, x1, x2] Tryz.func143 (by kernel_rfl) (by kernel_rfl) h

def model_Late.F [Pan] (x0 : Value) (w : World) (Q : Value → World → Prop) : Prop :=
 pN Tryz.prog (oBin .geq 3 (.tmp 3) (.const (.int .i64 14)) x0 (.int .i64 14)) w fun x4 w1 =>
 Q x4 w1
theorem model_Late.calls [Pan] {x0 : Value} {w : World} {Q : Value → World → Prop} (h : model_Late.F x0 w Q) : Calls Tryz.prog 147 #[x0] w (retP Q) := calls_lift mixed .z [x0] Tryz.func147 (by kernel_rfl) (by kernel_rfl) h

def model_RestAt.H : Hints := { cut := fun  | _ => none, loop := fun | 3 => ([3, 4], 8388600) | _ => ([], 0), order := fun  | _ => [] }
def model_RestAt.F [Pan] (x0 : Value) (w : World) (Q : Value → World → Prop) : Prop :=
 ∃ (L3 : Value → Value → World → Prop) (m3 : Value → Value → World → Nat),
 L3 (.int .i64 0) (.int .i64 4) w ∧
 ∀ (_k3 : Env) (at3l3 : Value) (s4l3 : Value) (w1 : World), L3 at3l3 s4l3 w1 →
 pN Tryz.prog (oBin .lss 3 (.tmp 8) (.tmp 9) s4l3 x0) w1 fun x10 w2 =>
 pIf x10
 (pN Tryz.prog (oCall 146 [s4l3]) w2 fun x15 w3 =>
 pN Tryz.prog (oExt x15 0) w3 fun _ w4 =>
 pN Tryz.prog (oExt x15 1) w4 fun x17 w5 =>
 pN Tryz.prog (oExt x15 2) w5 fun _ w6 =>
 pN Tryz.prog (oBin .shl 3 (.const (.int .i64 1)) (.tmp 20) (.int .i64 1) x17) w6 fun x21 w7 =>
 pN Tryz.prog (oBin .add 3 (.tmp 19) (.tmp 21) at3l3 x21) w7 fun x22 w8 =>
 pN Tryz.prog (oBin .add 3 (.tmp 11) (.const (.int .i64 1)) s4l3 (.int .i64 1)) w8 fun x12 w9 =>
 (L3 x22 x12 w9 ∧ m3 x22 x12 w9 < m3 at3l3 s4l3 w1))
 (Q at3l3 w2)
theorem model_RestAt.calls [Pan] {x0 : Value} {w : World} {Q : Value → World → Prop} (h : model_RestAt.F x0 w Q) : Calls Tryz.prog 148 #[x0] w (retP Q) := calls_lift mixed model_RestAt.H [x0] Tryz.func148 (by kernel_rfl) (by kernel_rfl) h

end Go.Proofs.YtbgnnjfpiblkmaaGreatDoor

namespace Go.Proofs.YtbgnnjfpiblkmaaGreatDoor
open Go
set_option maxRecDepth 100000

def prob_New.F [Pan] (x0 : Value) (w : World) (Q : Value → World → Prop) : Prop :=
 pN Tryz.prog (oBin .lss 3 (.tmp 5) (.const (.int .i64 0)) x0 (.int .i64 0)) w fun x6 w1 =>
 pGd (gB x6 false) (pN Tryz.prog (oMv x0) w1) w1 fun x8 w2 =>
 pGd (gB x6 false) (pN Tryz.prog (oBin .gtr 3 (.tmp 8) (.const (.int .i64 1048576)) x8 (.int .i64 1048576)) w2) w2 fun x9 w3 =>
 pN Tryz.prog (oPick x6 (.bool true) x9) w3 fun x10 w4 =>
 pIf x10
 (Q (.tuple #[(.pointer none), (.int .i64 7)]) w4)
 (pN Tryz.prog (oMk 217 x0 x0) w4 fun x12 w5 =>
 pN Tryz.prog (oBuild 254 [(0, x12)]) w5 fun x13 w6 =>
 pN Tryz.prog (oBox 254 x13) w6 fun x14 w7 =>
 pN Tryz.prog (oCall 174 [x14]) w7 fun _ w8 =>
 Q (.tuple #[x14, (.int .i64 0)]) w8)
theorem prob_New.calls [Pan] {x0 : Value} {w : World} {Q : Value → World → Prop} (h : prob_New.F x0 w Q) : Calls Tryz.prog 141 #[x0] w (retP Q) := calls_lift mixed .z [x0] Tryz.func141 (by kernel_rfl) (by kernel_rfl) h

def prob_Set_Reset.H : Hints := { cut := fun  | _ => none, loop := fun | 1 => ([8], 261892) | _ => ([], 0), order := fun  | _ => [] }
def prob_Set_Reset.F [Pan] (x0 : Value) (w : World) (Q : Value → World → Prop) : Prop :=
 pN Tryz.prog (oNil x0) w fun x4 w1 =>
 pN Tryz.prog (oFld 254 x4 0) w1 fun x5 w2 =>
 pN Tryz.prog (oLoad 217 x5) w2 fun x6 w3 =>
 pN Tryz.prog (oBi .len #[217] 3 [false] [x6]) w3 fun x7 w4 =>
 ∃ (L1 : Value → World → Prop) (m1 : Value → World → Nat),
 L1 (.int .i64 0) w4 ∧
 ∀ (_k1 : Env) (v8l1 : Value) (w5 : World), L1 v8l1 w5 →
 pN Tryz.prog (oBin .lss 3 (.tmp 8) (.tmp 7) v8l1 x7) w5 fun x9 w6 =>
 pIf x9
 (pN Tryz.prog (oNil x0) w6 fun x12 w7 =>
 pN Tryz.prog (oFld 254 x12 0) w7 fun x13 w8 =>
 pN Tryz.prog (oLoad 217 x13) w8 fun x14 w9 =>
 pN Tryz.prog (oIdx 217 x14 v8l1) w9 fun x16 w10 =>
 pN Tryz.prog (oStore 3 x16 (.int .i64 1024)) w10 fun _ w11 =>
 pN Tryz.prog (oBin .add 3 (.tmp 8) (.const (.int .i64 1)) v8l1 (.int .i64 1)) w11 fun x17 w12 =>
 (L1 x17 w12 ∧ m1 x17 w12 < m1 v8l1 w5))
 (Q (.tuple #[]) w6)
theorem prob_Set_Reset.calls [Pan] {x0 : Value} {w : World} {Q : Value → World → Prop} (h : prob_Set_Reset.F x0 w Q) : Calls Tryz.prog 174 #[x0] w (retP Q) := calls_lift mixed prob_Set_Reset.H [x0] Tryz.func174 (by kernel_rfl) (by kernel_rfl) h

def prob_Set_At.F [Pan] (x0 x1 : Value) (w : World) (Q : Value → World → Prop) : Prop :=
 pN Tryz.prog (oCall 199 [x0, x1]) w fun x9 w1 =>
 pN Tryz.prog (oBin .neq 38 (.tmp 10) (.const (.int .i64 0)) x9 (.int .i64 0)) w1 fun x11 w2 =>
 pIf x11
 (Q (.tuple #[(.int .i64 0), x9]) w2)
 (pN Tryz.prog (oNil x0) w2 fun x14 w3 =>
 pN Tryz.prog (oFld 254 x14 0) w3 fun x15 w4 =>
 pN Tryz.prog (oLoad 217 x15) w4 fun x16 w5 =>
 pN Tryz.prog (oIdx 217 x16 x1) w5 fun x18 w6 =>
 pN Tryz.prog (oLoad 3 x18) w6 fun x19 w7 =>
 Q (.tuple #[x19, (.int .i64 0)]) w7)
theorem prob_Set_At.calls [Pan] {x0 x1 : Value} {w : World} {Q : Value → World → Prop} (h : prob_Set_At.F x0 x1 w Q) : Calls Tryz.prog 179 #[x0, x1] w (retP Q) := calls_lift mixed .z [x0, x1] Tryz.func179 (by kernel_rfl) (by kernel_rfl) h

def prob_Set_Turn.H : Hints := { cut := fun | 4 => some ([], 268433408) | _ => none, loop := fun  | _ => ([], 0), order := fun | 3 => [(0, 0), (1, 1), (2, 3), (3, 7), (4, 15), (5, 31), (6, 63), (7, 127), (8, 255), (9, 511), (10, 1023), (11, 2047), (12, 4095), (13, 8191), (14, 16383), (15, 32767)] | _ => [] }
def prob_Set_Turn.F [Pan] (x0 x1 x2 : Value) (w : World) (Q : Value → World → Prop) : Prop :=
 pN Tryz.prog (oCall 199 [x0, x1]) w fun x10 w1 =>
 ∃ I4 : World → Prop,
 (pN Tryz.prog (oBin .eql 38 (.tmp 11) (.const (.int .i64 0)) x10 (.int .i64 0)) w1 fun x12 w2 =>
 pIf x12
 (pDr w2 fun w3 =>
 pA Tryz.prog (oNil x0) fun x14 =>
 pA Tryz.prog (oFld 254 x14 0) fun x15 =>
 pL Tryz.prog (oLoad 217 x15) w3 fun x16 =>
 pA Tryz.prog (oNil x0) fun x19 =>
 pA Tryz.prog (oFld 254 x19 0) fun x20 =>
 pL Tryz.prog (oLoad 217 x20) w3 fun x21 =>
 pA Tryz.prog (oIdx 217 x21 x1) fun x23 =>
 pL Tryz.prog (oLoad 3 x23) w3 fun x24 =>
 pN Tryz.prog (oCall 200 [x24, x2]) w3 fun x26 w4 =>
 ((Sem.run Tryz.prog (oLoad 217 x15) w4 = .ok (.value x16) w4) ∧ True) ∧ (pA Tryz.prog (oIdx 217 x16 x1) fun x27 =>
 pN Tryz.prog (oStore 3 x27 x26) w4 fun _ w5 =>
 (True) ∧ (I4 w5)))
 (I4 w2)) ∧
 ∀ (_j4 : Env) (w6 : World), I4 w6 →
 Q x10 w6
theorem prob_Set_Turn.calls [Pan] {x0 x1 x2 : Value} {w : World} {Q : Value → World → Prop} (h : prob_Set_Turn.F x0 x1 x2 w Q) : Calls Tryz.prog 182 #[x0, x1, x2] w (retP Q) := calls_lift mixed prob_Set_Turn.H [x0, x1, x2] Tryz.func182 (by kernel_rfl) (by kernel_rfl) h

def prob_Bound.F [Pan] (x0 x1 : Value) (w : World) (Q : Value → World → Prop) : Prop :=
 pN Tryz.prog (oBin .shr 148 (.tmp 5) (.const (.int .u64 11)) x0 (.int .u64 11)) w fun x6 w1 =>
 pN Tryz.prog (oCall 201 [x1]) w1 fun x8 w2 =>
 pN Tryz.prog (oConv 3 148 x8) w2 fun x9 w3 =>
 pN Tryz.prog (oBin .mul 148 (.tmp 6) (.tmp 9) x6 x9) w3 fun x10 w4 =>
 Q x10 w4
theorem prob_Bound.calls [Pan] {x0 x1 : Value} {w : World} {Q : Value → World → Prop} (h : prob_Bound.F x0 x1 w Q) : Calls Tryz.prog 184 #[x0, x1] w (retP Q) := calls_lift mixed .z [x0, x1] Tryz.func184 (by kernel_rfl) (by kernel_rfl) h

def prob_Set_has.F [Pan] (x0 x1 : Value) (w : World) (Q : Value → World → Prop) : Prop :=
 pN Tryz.prog (oBin .lss 3 (.tmp 5) (.const (.int .i64 0)) x1 (.int .i64 0)) w fun x6 w1 =>
 pGd (gB x6 false) (pN Tryz.prog (oMv x1) w1) w1 fun x8 w2 =>
 pGd (gB x6 false) (pN Tryz.prog (oMv x0) w2) w2 fun x9 w3 =>
 pGd (gB x6 false) (pN Tryz.prog (oNil x9) w3) w3 fun x10 w4 =>
 pGd (gB x6 false) (pN Tryz.prog (oFld 254 x10 0) w4) w4 fun x11 w5 =>
 pGd (gB x6 false) (pN Tryz.prog (oLoad 217 x11) w5) w5 fun x12 w6 =>
 pGd (gB x6 false) (pN Tryz.prog (oBi .len #[217] 3 [false] [x12]) w6) w6 fun x13 w7 =>
 pGd (gB x6 false) (pN Tryz.prog (oBin .geq 3 (.tmp 8) (.tmp 13) x8 x13) w7) w7 fun x14 w8 =>
 pN Tryz.prog (oPick x6 (.bool true) x14) w8 fun x15 w9 =>
 pIf x15
 (Q (.int .i64 7) w9)
 (Q (.int .i64 0) w9)
theorem prob_Set_has.calls [Pan] {x0 x1 : Value} {w : World} {Q : Value → World → Prop} (h : prob_Set_has.F x0 x1 w Q) : Calls Tryz.prog 199 #[x0, x1] w (retP Q) := calls_lift mixed .z [x0, x1] Tryz.func199 (by kernel_rfl) (by kernel_rfl) h

def prob_Next.F [Pan] (x0 x1 : Value) (w : World) (Q : Value → World → Prop) : Prop :=
 pN Tryz.prog (oCall 201 [x0]) w fun x6 w1 =>
 pN Tryz.prog (oBin .eql 3 (.tmp 7) (.const (.int .i64 0)) x1 (.int .i64 0)) w1 fun x8 w2 =>
 pIf x8
 (pN Tryz.prog (oBin .sub 3 (.const (.int .i64 2048)) (.tmp 10) (.int .i64 2048) x6) w2 fun x11 w3 =>
 pN Tryz.prog (oBin .shr 3 (.tmp 11) (.const (.int .u64 5)) x11 (.int .u64 5)) w3 fun x12 w4 =>
 pN Tryz.prog (oBin .add 3 (.tmp 9) (.tmp 12) x6 x12) w4 fun x13 w5 =>
 Q x13 w5)
 (pN Tryz.prog (oBin .shr 3 (.tmp 15) (.const (.int .u64 5)) x6 (.int .u64 5)) w2 fun x16 w6 =>
 pN Tryz.prog (oBin .sub 3 (.tmp 14) (.tmp 16) x6 x16) w6 fun x17 w7 =>
 Q x17 w7)
theorem prob_Next.calls [Pan] {x0 x1 : Value} {w : World} {Q : Value → World → Prop} (h : prob_Next.F x0 x1 w Q) : Calls Tryz.prog 200 #[x0, x1] w (retP Q) := calls_lift mixed .z [x0, x1] Tryz.func200 (by kernel_rfl) (by kernel_rfl) h

def prob_taken.F [Pan] (x0 : Value) (w : World) (Q : Value → World → Prop) : Prop :=
 pN Tryz.prog (oBi .min #[3, 3] 3 [false, true] [x0, (.int .i64 2047)]) w fun x4 w1 =>
 pN Tryz.prog (oBi .max #[3, 3] 3 [true, false] [(.int .i64 0), x4]) w1 fun x5 w2 =>
 Q x5 w2
theorem prob_taken.calls [Pan] {x0 : Value} {w : World} {Q : Value → World → Prop} (h : prob_taken.F x0 w Q) : Calls Tryz.prog 201 #[x0] w (retP Q) := calls_lift mixed .z [x0] Tryz.func201 (by kernel_rfl) (by kernel_rfl) h

def prob_Set_Len.F [Pan] (x0 : Value) (w : World) (Q : Value → World → Prop) : Prop :=
 pN Tryz.prog (oNil x0) w fun x4 w1 =>
 pN Tryz.prog (oFld 254 x4 0) w1 fun x5 w2 =>
 pN Tryz.prog (oLoad 217 x5) w2 fun x6 w3 =>
 pN Tryz.prog (oBi .len #[217] 3 [false] [x6]) w3 fun x7 w4 =>
 Q x7 w4
theorem prob_Set_Len.calls [Pan] {x0 : Value} {w : World} {Q : Value → World → Prop} (h : prob_Set_Len.F x0 w Q) : Calls Tryz.prog 225 #[x0] w (retP Q) := calls_lift mixed .z [x0] Tryz.func225 (by kernel_rfl) (by kernel_rfl) h

end Go.Proofs.YtbgnnjfpiblkmaaGreatDoor

namespace Go.Proofs.YtbgnnjfpiblkmaaGreatDoor
open Go
attribute [local irreducible] oMv oV oU oCall oCallV oBi oBin oUn oLoad oStore oNil oFld oField oIdx oIndex oPick oAlloc oBox oBuild oBs oConv oMk oSl oExt oFn oIface oMap oLook oMapUp oRange oNext oEntry oInv oAssert oPanic oRes pN pA pL pDr pIf gA pGd

def PSet (b : Nat) (l : List Int) : HA := fun h => ∃ s : Sl, Sats [cel b ⟨254, [.slice s.a l.length s.c]⟩, rows cd_int s l] h

namespace B
def taken (p : Int) : Int := max 0 (min p 2047)
def next (p bit : Int) : Int := if bit = 0 then taken p + (2048 - taken p) / 32 else taken p - taken p / 32
def bound (rng p : Int) : Int := rng / 2048 * taken p
theorem taken_lo (p : Int) : 0 ≤ taken p := by unfold taken; omega
theorem taken_hi (p : Int) : taken p ≤ 2047 := by unfold taken; omega
theorem taken_self {p : Int} (h : 0 ≤ p) (h2 : p ≤ 2047) : taken p = p := by unfold taken; omega
theorem next_lo {p : Int} (bit : Int) (h1 : 31 ≤ p) (h2 : p ≤ 2017) : 31 ≤ next p bit := by
  unfold next
  rw [taken_self (by omega) (by omega)]
  split <;> omega
theorem next_hi {p : Int} (bit : Int) (h1 : 31 ≤ p) (h2 : p ≤ 2017) : next p bit ≤ 2017 := by
  unfold next
  rw [taken_self (by omega) (by omega)]
  split <;> omega
theorem bound_pos {rng p : Int} (h0 : 16777216 ≤ rng) (h1 : 31 ≤ p) : 0 < bound rng p := by
  unfold bound taken
  have : 1 * 1 ≤ rng / 2048 * max 0 (min p 2047) := Int.mul_le_mul (by omega) (by omega) (by omega) (by omega)
  omega
theorem bound_lo {rng p : Int} (h0 : 0 ≤ rng) : 0 ≤ bound rng p := Int.mul_nonneg (by omega) (taken_lo p)
theorem bound_lt {rng p : Int} (h0 : 16777216 ≤ rng) : bound rng p < rng := by
  unfold bound
  have h1 := taken_hi p
  have h2 := taken_lo p
  have : rng / 2048 * taken p ≤ rng / 2048 * 2047 := Int.mul_le_mul_of_nonneg_left h1 (by omega)
  omega
theorem bound_le {rng p : Int} (h0 : 0 ≤ rng) : bound rng p ≤ rng := by
  unfold bound
  have h1 := taken_hi p
  have h2 := taken_lo p
  have : rng / 2048 * taken p ≤ rng / 2048 * 2047 := Int.mul_le_mul_of_nonneg_left h1 (by omega)
  omega
def halve : Nat → Int → Int → Int × Int
  | 0, w, c => (w, c)
  | f + 1, w, c => if 65536 ≤ w then halve f (w / 2) (c + 1) else (w, c)
def square (x : Int × Int) : Int × Int := halve 20 (x.1 * x.1) (x.2 * 2)
def costing (i : Int) : Int := 161 - (square (square (square (square (16 * i + 8, 0))))).2
def cost (p bit : Int) : Int := if bit = 0 then costing (taken p / 16) else costing ((2047 - taken p) / 16)
def Fine (l : List Int) : Prop := ∀ p ∈ l, 31 ≤ p ∧ p ≤ 2017
theorem Fine.get {l : List Int} (h : Fine l) {i : Nat} {p : Int} (hp : l[i]? = some p) : 31 ≤ p ∧ p ≤ 2017 := h p (List.mem_of_getElem? hp)
theorem Fine.new (n : Nat) : Fine (List.replicate n 1024) := by
  intro p hp
  rw [List.eq_of_mem_replicate hp]
  omega
theorem Fine.set {l : List Int} (h : Fine l) (i : Nat) {p : Int} (hp : 31 ≤ p ∧ p ≤ 2017) : Fine (l.set i p) := by
  intro q hq
  rcases List.mem_or_eq_of_mem_set hq with hq | rfl
  · exact h q hq
  · exact hp
end B

section
variable {E w : World} {M : List HA} {Q : Value → World → Prop} {b : Nat} {l : List Int}

theorem PSet.opn (hS : Sat E w (PSet b l :: M)) : ∃ s : Sl, Sat E w (cel b ⟨254, [.slice s.a l.length s.c]⟩ :: rows cd_int s l :: M) := by
  obtain ⟨s, hS⟩ := hS.ex
  exact ⟨s, hS.open_ (M := [_, _]) fun _ h => h⟩
theorem PSet.shut {s : Sl} {L N : List HA} {o : Ob} (hS : Sat E w L) [h1 : Fnd (cel b) L o N] [h2 : Fnd (rows cd_int s) N l M] (ho : o = ⟨254, [.slice s.a l.length s.c]⟩) : Sat E w (PSet b l :: M) := by
  subst ho
  exact Sat.shut (M := [_, _]) (hS.fd2 (cel b) (rows cd_int s)) fun _ h => ⟨s, h⟩

theorem Len_ok (hS : Sat E w (PSet b l :: M)) (hQ : ∀ w, Sat E w (PSet b l :: M) → Q (.int .i64 l.length) w) : Calls Tryz.prog 225 #[.pointer (some ⟨b, 0, none⟩)] w (retP Q) := by
  refine prob_Set_Len.calls ?_
  unfold prob_Set_Len.F
  obtain ⟨s, hS⟩ := PSet.opn hS
  repeat' (first | refine pN_l hS (by first | rfl | assumption) ?_ | refine pN_v (hk := ?_) | fail)
  exact hQ _ (PSet.shut (b := b) (s := s) hS rfl)

theorem has_ok (hS : Sat E w (PSet b l :: M)) (i : Int) (hQ : ∀ w, Sat E w (PSet b l :: M) → Q (.int .i64 (if 0 ≤ i ∧ i < l.length then 0 else 7)) w) : Calls Tryz.prog 199 #[.pointer (some ⟨b, 0, none⟩), .int .i64 i] w (retP Q) := by
  refine prob_Set_has.calls ?_
  unfold prob_Set_has.F
  obtain ⟨s, hS⟩ := PSet.opn hS
  repeat' (first | ((first | refine pN_lss_s ?_ ?_ | refine pN_geq_s ?_ ?_) <;> intro hc <;> try (exfalso; omega)) | refine pIf_t ?_ | refine pIf_f ?_ | refine pGd_go (by rfl) ?_ | refine pGd_no (by rfl) ?_ | refine pN_l hS (by first | rfl | assumption) ?_ | refine pN_v (hk := ?_) | fail)
  all_goals (have := hQ _ (PSet.shut (b := b) (s := s) hS rfl); first | (rw [if_neg (by omega)] at this; exact this) | (rw [if_pos (by omega)] at this; exact this))

theorem taken_ok (p : Int) (hQ : Q (.int .i64 (B.taken p)) w) : Calls Tryz.prog 201 #[.int .i64 p] w (retP Q) := by
  refine prob_taken.calls ?_
  unfold prob_taken.F
  repeat' (first | refine pN_v (hk := ?_) | fail)
  exact hQ

theorem Next_ok (p bit : Int) (hQ : Q (.int .i64 (B.next p bit)) w) : Calls Tryz.prog 200 #[.int .i64 p, .int .i64 bit] w (retP Q) := by
  refine prob_Next.calls ?_
  unfold prob_Next.F
  have h1 := B.taken_lo p
  have h2 := B.taken_hi p
  refine pc_prob_taken (taken_ok p ?_)
  repeat' (first | (refine pN_eql_s ?_ ?_ <;> intro hc <;> try (exfalso; first | omega | exact hc rfl | exact hc (by assumption) | exact absurd hc (by assumption))) | refine pIf_t ?_ | refine pIf_f ?_ | refine pN_v (hk := ?_) | fail)
  · rw [B.next, if_pos hc] at hQ; exact hQ
  · rw [B.next, if_neg hc] at hQ; exact hQ

theorem Bound_ok (rng p : Int) (h0 : 0 ≤ rng) (h1 : rng < 4294967296) (hQ : Q (.int .u32 (B.bound rng p)) w) : Calls Tryz.prog 184 #[.int .u32 rng, .int .i64 p] w (retP Q) := by
  refine prob_Bound.calls ?_
  unfold prob_Bound.F
  have h3 := B.taken_lo p
  have h4 := B.taken_hi p
  have h5 := B.bound_lo (rng := rng) (p := p) h0
  have h6 := B.bound_le (rng := rng) (p := p) h0
  unfold B.bound at h5 h6 hQ
  repeat' (first | refine pN_v (hk := ?_) | fail)
  refine pc_prob_taken (taken_ok p ?_)
  repeat' (first | refine pN_v (hk := ?_) | fail)
  exact hQ

theorem At_ok (hS : Sat E w (PSet b l :: M)) (i : Int) (hQ : ∀ w, Sat E w (PSet b l :: M) → Q (.tuple #[.int .i64 (if 0 ≤ i ∧ i < l.length then l.getD i.toNat 0 else 0), .int .i64 (if 0 ≤ i ∧ i < l.length then 0 else 7)]) w) :
    Calls Tryz.prog 179 #[.pointer (some ⟨b, 0, none⟩), .int .i64 i] w (retP Q) := by
  refine prob_Set_At.calls ?_
  unfold prob_Set_At.F
  refine pc_prob_Set_has (has_ok hS i fun w hS => ?_)
  have := hQ w
  by_cases h : 0 ≤ i ∧ i < l.length
  · simp only [if_pos h] at hQ ⊢
    obtain ⟨s, hS⟩ := PSet.opn hS
    repeat' (first | (refine pN_neq_s ?_ ?_ <;> intro hc <;> try (exfalso; first | omega | exact hc rfl | exact hc (by assumption) | exact absurd hc (by assumption))) | refine pIf_f ?_ | refine pN_l hS (by first | rfl | assumption) ?_ | refine pN_ld1 ha hS ?_ | refine pN_ix hS _ (by first | rfl | (exact (Int.toNat_of_nonneg (by omega)).symm)) (by first | rfl | omega | simpa only [go_sem] using True.intro | (simp only [go_sem]; omega)) (by first | omega | (simp only [go_sem]; omega)) fun a x hx ha hel => ?_ | refine pN_v (hk := ?_) | fail)
    rw [List.getD_eq_getElem?_getD, hx] at hQ
    exact hQ _ (PSet.shut (b := b) (s := s) hS rfl)
  · simp only [if_neg h] at hQ ⊢
    repeat' (first | (refine pN_neq_s ?_ ?_ <;> intro hc <;> try (exfalso; first | omega | exact hc rfl | exact hc (by assumption) | exact absurd hc (by assumption))) | refine pIf_t ?_ | fail)
    exact hQ _ hS

theorem At_in (hS : Sat E w (PSet b l :: M)) (i : Int) {x : Int} (h0 : 0 ≤ i) (hx : l[i.toNat]? = some x) (hQ : ∀ w, Sat E w (PSet b l :: M) → Q (.tuple #[.int .i64 x, .int .i64 0]) w) :
    Calls Tryz.prog 179 #[.pointer (some ⟨b, 0, none⟩), .int .i64 i] w (retP Q) := by
  have hlt : i.toNat < l.length := (List.getElem?_eq_some_iff.1 hx).1
  refine At_ok hS i fun w hS => ?_
  have e : l.getD i.toNat 0 = x := by rw [List.getD_eq_getElem?_getD, hx]; rfl
  rw [if_pos (by omega), if_pos (by omega), e]
  exact hQ w hS
theorem At_no (hS : Sat E w (PSet b l :: M)) (i : Int) (h : ¬ (0 ≤ i ∧ i < l.length)) (hQ : ∀ w, Sat E w (PSet b l :: M) → Q (.tuple #[.int .i64 0, .int .i64 7]) w) :
    Calls Tryz.prog 179 #[.pointer (some ⟨b, 0, none⟩), .int .i64 i] w (retP Q) := by
  refine At_ok hS i fun w hS => ?_
  rw [if_neg h, if_neg h]
  exact hQ w hS

theorem Turn_ok (hS : Sat E w (PSet b l :: M)) (i bit : Int) (hQ : ∀ w, Sat E w (PSet b (if 0 ≤ i ∧ i < l.length then l.set i.toNat (B.next (l.getD i.toNat 0) bit) else l) :: M) → Q (.int .i64 (if 0 ≤ i ∧ i < l.length then 0 else 7)) w) :
    Calls Tryz.prog 182 #[.pointer (some ⟨b, 0, none⟩), .int .i64 i, .int .i64 bit] w (retP Q) := by
  refine prob_Set_Turn.calls ?_
  unfold prob_Set_Turn.F
  refine pc_prob_Set_has (has_ok hS i fun w hS => ?_)
  by_cases h : 0 ≤ i ∧ i < l.length
  · simp only [if_pos h] at hQ ⊢
    obtain ⟨s, hS⟩ := PSet.opn hS
    refine ⟨_, ?_, fun _ _ h => h⟩
    repeat' (first | (refine pN_eql_s ?_ ?_ <;> intro hc <;> try (exfalso; first | omega | exact hc rfl | exact hc (by assumption) | exact absurd hc (by assumption))) | refine pIf_t ?_ | refine pL_l hS (by first | rfl | assumption) ?_ | refine pL_ld1 ha hS ?_ | (refine pDr_go hS ?_; clear hS; intro w hS) | refine pA_ix hS _ (by first | rfl | (exact (Int.toNat_of_nonneg (by omega)).symm)) (by first | rfl | omega | simpa only [go_sem] using True.intro | (simp only [go_sem]; omega)) (by first | omega | (simp only [go_sem]; omega)) fun a x hx ha hel => ?_ | refine pA_v (hk := ?_) | fail)
    refine pc_prob_Next (Next_ok _ bit ?_)
    repeat' (first | refine ⟨trivial, ?_⟩ | refine ⟨⟨(by first | exact run_l hS (by first | rfl | assumption) | exact run_st hS (by first | rfl | omega) | exact run_ld1 ha hS | exact fun _ => run_l hS (by rfl) | exact fun _ => run_st hS (by first | rfl | omega) | exact fun _ => run_ld1 ha hS | exact fun h => Bool.noConfusion h), trivial⟩, ?_⟩ | refine pA_ixk hS _ (by first | rfl | (exact (Int.toNat_of_nonneg (by omega)).symm)) (by first | rfl | omega | simpa only [go_sem] using True.intro | (simp only [go_sem]; omega)) (by assumption) fun a ha hel => ?_ | (refine pN_sr hel hS (by rfl) (by rfl) (by first | omega | (simp only [go_sem]; omega)) ?_; clear hS; intro w hS) | fail)
    have e : l.getD i.toNat 0 = x := by rw [List.getD_eq_getElem?_getD, hx]; rfl
    rw [e] at hQ
    exact hQ _ (PSet.shut (b := b) (s := s) hS (by rw [List.length_set]))
  · simp only [if_neg h] at hQ ⊢
    refine ⟨_, ?_, fun _ _ h => h⟩
    repeat' (first | (refine pN_eql_s ?_ ?_ <;> intro hc <;> try (exfalso; first | omega | exact hc rfl | exact hc (by assumption) | exact absurd hc (by assumption))) | refine pIf_f ?_ | fail)
    exact hQ _ hS

theorem Reset_ok (hS : Sat E w (PSet b l :: M)) (hQ : ∀ w, Sat E w (PSet b (List.replicate l.length 1024) :: M) → Q (.tuple #[]) w) : Calls Tryz.prog 174 #[.pointer (some ⟨b, 0, none⟩)] w (retP Q) := by
  refine prob_Set_Reset.calls ?_
  unfold prob_Set_Reset.F
  obtain ⟨s, hS⟩ := PSet.opn hS
  have hlen := rows_len (C := cd_int) s hS
  repeat' (first | refine pN_l hS (by first | rfl | assumption) ?_ | refine pN_v (hk := ?_) | fail)
  refine ⟨fun v w => ∃ k : Nat, v = .int .i64 k ∧ k ≤ l.length ∧ Sat E w (cel b ⟨254, [.slice s.a l.length s.c]⟩ :: rows cd_int s (List.replicate k 1024 ++ l.drop k) :: M), fun v _ => l.length - (RowKit.intOf v).toNat, ⟨0, rfl, Nat.zero_le _, hS⟩, ?_⟩
  rintro _ _ w ⟨k, rfl, hk, hS⟩
  have e : (List.replicate k 1024 ++ l.drop k).length = l.length := by simp; omega
  repeat' (first | (refine pN_lss_s ?_ ?_ <;> intro hc <;> try (exfalso; omega)) | refine pIf_t ?_ | refine pIf_f ?_ | refine pN_l hS (by first | rfl | assumption) ?_ | refine pN_ix hS _ (by first | rfl | (exact (Int.toNat_of_nonneg (by omega)).symm)) (by first | rfl | omega | simpa only [go_sem] using True.intro | (simp only [go_sem]; omega)) (by first | omega | (simp only [go_sem]; omega)) fun a x hx ha hel => ?_ | (refine pN_sr hel hS (by rfl) (by rfl) (by first | omega | (simp only [go_sem]; omega)) ?_; clear hS; intro w hS) | refine pN_v (hk := ?_) | fail)
  · refine ⟨⟨k + 1, rfl, by omega, ?_⟩, by simp [RowKit.intOf]; omega⟩
    have e2 : (List.replicate k (1024 : Int) ++ l.drop k).set k 1024 = List.replicate (k + 1) 1024 ++ l.drop (k + 1) := by
      rw [List.set_append_right _ _ (by simp), List.length_replicate, Nat.sub_self, List.replicate_succ', List.append_assoc]
      have : k < l.length := by omega
      rw [List.drop_eq_getElem_cons this]
      rfl
    rw [e2] at hS
    exact hS.to
  · obtain rfl : k = l.length := by omega
    rw [List.drop_length, List.append_nil] at hS
    exact hQ _ (PSet.shut (b := b) (s := s) hS (by rw [List.length_replicate]))

theorem New_ok (hS : Sat E w M) (n : Int) (h0 : 0 ≤ n) (h1 : n ≤ 1048576) (hQ : ∀ b w, Sat E w (PSet b (List.replicate n.toNat 1024) :: M) → Q (.tuple #[.pointer (some ⟨b, 0, none⟩), .int .i64 0]) w) :
    Calls Tryz.prog 141 #[.int .i64 n] w (retP Q) := by
  refine prob_New.calls ?_
  unfold prob_New.F
  repeat' (first | ((first | refine pN_lss_s ?_ ?_ | refine pN_gtr_s ?_ ?_) <;> intro hc <;> try (exfalso; omega)) | refine pIf_f ?_ | refine pGd_go (by rfl) ?_ | (refine pN_bx hS (by rfl) ?_; clear hS; intro a w hS) | (refine pN_mk hS _ (by first | rfl | (exact (Int.toNat_of_nonneg (by omega)).symm)) (by first | omega | (simp only [go_sem]; omega)) ?_; clear hS; intro s w hS) | refine pN_v (hk := ?_) | fail)
  have hS : Sat E w (PSet a (List.replicate n.toNat 0) :: M) := PSet.shut (b := a) (s := s) hS (by rw [List.length_replicate])
  refine pc_prob_Set_Reset (Reset_ok hS fun w hS => ?_)
  rw [List.length_replicate] at hS
  exact hQ _ _ hS
end

end Go.Proofs.YtbgnnjfpiblkmaaGreatDoor

namespace Go.Proofs.YtbgnnjfpiblkmaaGreatDoor
open Go
namespace Z
def tabLen (p : Pr) (i : Nat) : Nat := [192, 192, 12, 12, 12, 12, 768 * 2 ^ (p.lc + p.lp).toNat, 2, 128, 128, 256, 2, 128, 128, 256, 256, 128, 16].getD i 0
def T0 (p : Pr) (i : Nat) : List Int := List.replicate (tabLen p i) 1024
structure TabOk (p : Pr) (T : Nat → List Int) : Prop where
  len : ∀ i, i < 18 → (T i).length = tabLen p i
  fine : ∀ i, B.Fine (T i)
theorem TabOk.new (p : Pr) : TabOk p (T0 p) := ⟨fun i _ => List.length_replicate, fun i => B.Fine.new _⟩
theorem tabLen_bd {p : Pr} (h : p.Ok) (i : Nat) : tabLen p i ≤ 12288 := by
  have h1 : 2 ^ (p.lc + p.lp).toNat ≤ 2 ^ 4 := Nat.pow_le_pow_right (by omega) (by unfold Pr.Ok at h; omega)
  unfold tabLen
  match i with
  | 0 | 1 | 2 | 3 | 4 | 5 | 7 | 8 | 9 | 10 | 11 | 12 | 13 | 14 | 15 | 16 | 17 => exact Nat.le_of_ble_eq_true rfl
  | 6 =>
    show 768 * 2 ^ (p.lc + p.lp).toNat ≤ 12288
    omega
  | n + 18 => simp [List.getD]
def place (p : Pr) (n : Int) : Int := n % 2 ^ p.pb.toNat
def context (p : Pr) (n : Int) (b : Int) : Int := 768 * (n % 2 ^ p.lp.toNat * 2 ^ p.lc.toNat + b / 2 ^ (8 - p.lc).toNat)
def restAt (s : Int) : Int := if s ≤ 4 then 0 else if s = 5 then 2 else if s = 6 then 4 else if s = 7 then 8 else if s = 8 then 12 else if s = 9 then 20 else if s = 10 then 28 else if s = 11 then 44 else if s = 12 then 60 else 92
theorem rest_step (i : Int) (h0 : 4 ≤ i) (h1 : i ≤ 12) : restAt i + 1 * 2 ^ bitsN i = restAt (i + 1) ∧ 0 ≤ restAt i ∧ restAt i ≤ 92 ∧ bitsN i ≤ 5 ∧ (1 : Int) * 2 ^ bitsN i ≤ 32 ∧ 0 ≤ (1 : Int) * 2 ^ bitsN i := by
  have h4 : i = 4 ∨ i = 5 ∨ i = 6 ∨ i = 7 ∨ i = 8 ∨ i = 9 ∨ i = 10 ∨ i = 11 ∨ i = 12 := by omega
  rcases h4 with rfl | rfl | rfl | rfl | rfl | rfl | rfl | rfl | rfl <;> decide
def upd {α : Type} (f : Nat → α) (i : Nat) (a : α) (j : Nat) : α := if j = i then a else f j
theorem upd_self {α : Type} (f : Nat → α) (i : Nat) (a : α) : upd f i a i = a := by rw [upd, if_pos rfl]
theorem upd_ne {α : Type} (f : Nat → α) {i j : Nat} (a : α) (h : j ≠ i) : upd f i a j = f j := by rw [upd, if_neg h]
end Z

abbrev pz (q : Nat) : Value := .pointer (some ⟨q, 0, none⟩)
abbrev tbCells (p : Z.Pr) (s : Z.St) (q : Nat → Nat) : List Value :=
  [.int .i64 p.lc, .int .i64 p.lp, .int .i64 p.pb, .int .i64 s.num, .int .i64 s.r0, .int .i64 s.r1, .int .i64 s.r2, .int .i64 s.r3, pz (q 0), pz (q 1), pz (q 2), pz (q 3), pz (q 4), pz (q 5), pz (q 6), pz (q 7), pz (q 8), pz (q 9), pz (q 10), pz (q 11), pz (q 12), pz (q 13), pz (q 14), pz (q 15), pz (q 16), pz (q 17)]
def tabs (q : Nat → Nat) (T : Nat → List Int) : HA := bag ((List.range 18).map fun i => PSet (q i) (T i))

section
variable {E w : World} {L M : List HA} {q : Nat → Nat} {T : Nat → List Int}
def tabsBut (q : Nat → Nat) (T : Nat → List Int) (i : Nat) : HA := bag (((List.range 18).map fun i => PSet (q i) (T i)).eraseIdx i)
theorem tabs_out (hS : Sat E w (tabs q T :: M)) (i : Nat) (h : i < 18) : Sat E w (PSet (q i) (T i) :: tabsBut q T i :: M) :=
  hS.out i (by rw [List.getElem?_map, List.getElem?_range h]; rfl)
theorem tabs_into {i : Nat} {l : List Int} (hS : Sat E w (PSet (q i) l :: tabsBut q T i :: M)) (h : i < 18) : Sat E w (tabs q (Z.upd T i l) :: M) := by
  have h1 := Sat.into (M := (List.range 18).map fun i => PSet (q i) (T i)) (A := PSet (q i) (T i)) hS (by rw [List.getElem?_map, List.getElem?_range h]; rfl)
  have e : ((List.range 18).map fun i => PSet (q i) (T i)).set i (PSet (q i) l) = (List.range 18).map fun j => PSet (q j) (Z.upd T i l j) := by
    refine List.ext_getElem? fun j => ?_
    rw [List.getElem?_set]
    by_cases hij : i = j
    · subst hij
      rw [if_pos rfl, if_pos (by simpa using h), List.getElem?_map, List.getElem?_range h, Option.map_some, Z.upd_self]
    · rw [if_neg hij, List.getElem?_map, List.getElem?_map]
      by_cases hj : j < 18
      · rw [List.getElem?_range hj, Option.map_some, Option.map_some, Z.upd_ne _ _ (Ne.symm hij)]
      · rw [List.getElem?_eq_none (by simpa using hj)]; rfl
  rw [e] at h1
  exact h1
theorem tabs_congr {q q' : Nat → Nat} {T T' : Nat → List Int} (hq : ∀ i, i < 18 → q i = q' i) (hT : ∀ i, i < 18 → T i = T' i) : tabs q T = tabs q' T' := by
  unfold tabs
  congr 1
  refine List.map_congr_left fun i hi => ?_
  rw [hq i (by simpa using hi), hT i (by simpa using hi)]
theorem tabs_new {b0 b1 b2 b3 b4 b5 b6 b7 b8 b9 b10 b11 b12 b13 b14 b15 b16 b17 : Nat} {l0 l1 l2 l3 l4 l5 l6 l7 l8 l9 l10 l11 l12 l13 l14 l15 l16 l17 : List Int} {C : HA} (hS : Sat E w (C :: PSet b17 l17 :: PSet b16 l16 :: PSet b15 l15 :: PSet b11 l11 :: PSet b12 l12 :: PSet b13 l13 :: PSet b14 l14 :: PSet b7 l7 :: PSet b8 l8 :: PSet b9 l9 :: PSet b10 l10 :: PSet b6 l6 :: PSet b5 l5 :: PSet b4 l4 :: PSet b3 l3 :: PSet b2 l2 :: PSet b1 l1 :: PSet b0 l0 :: M)) : Sat E w (C :: tabs (fun i => [b0, b1, b2, b3, b4, b5, b6, b7, b8, b9, b10, b11, b12, b13, b14, b15, b16, b17].getD i 0) (fun i => [l0, l1, l2, l3, l4, l5, l6, l7, l8, l9, l10, l11, l12, l13, l14, l15, l16, l17].getD i []) :: M) :=
  (Sat.shutBag (M := (List.range 18).map fun i => PSet ([b0, b1, b2, b3, b4, b5, b6, b7, b8, b9, b10, b11, b12, b13, b14, b15, b16, b17].getD i 0) ([l0, l1, l2, l3, l4, l5, l6, l7, l8, l9, l10, l11, l12, l13, l14, l15, l16, l17].getD i []))
    ((hS.perm (List.perm_middle (l₁ := List.map (fun i => PSet ([b0, b1, b2, b3, b4, b5, b6, b7, b8, b9, b10, b11, b12, b13, b14, b15, b16, b17].getD i 0) ([l0, l1, l2, l3, l4, l5, l6, l7, l8, l9, l10, l11, l12, l13, l14, l15, l16, l17].getD i [])) [17, 16, 15, 11, 12, 13, 14, 7, 8, 9, 10, 6, 5, 4, 3, 2, 1, 0])).symm).perm (List.Perm.append_right (C :: M) ((show List.Perm [17, 16, 15, 11, 12, 13, 14, 7, 8, 9, 10, 6, 5, 4, 3, 2, 1, 0] (List.range 18) by decide).map (fun i => PSet ([b0, b1, b2, b3, b4, b5, b6, b7, b8, b9, b10, b11, b12, b13, b14, b15, b16, b17].getD i 0) ([l0, l1, l2, l3, l4, l5, l6, l7, l8, l9, l10, l11, l12, l13, l14, l15, l16, l17].getD i [])))))).perm (List.Perm.swap _ _ _)
theorem all18 {P : Nat → Prop} (h0 : P 0) (h1 : P 1) (h2 : P 2) (h3 : P 3) (h4 : P 4) (h5 : P 5) (h6 : P 6) (h7 : P 7) (h8 : P 8) (h9 : P 9) (h10 : P 10) (h11 : P 11) (h12 : P 12) (h13 : P 13) (h14 : P 14) (h15 : P 15) (h16 : P 16) (h17 : P 17) : ∀ i, i < 18 → P i := by
  intro i hi
  match i, hi with
  | 0, _ => exact h0
  | 1, _ => exact h1
  | 2, _ => exact h2
  | 3, _ => exact h3
  | 4, _ => exact h4
  | 5, _ => exact h5
  | 6, _ => exact h6
  | 7, _ => exact h7
  | 8, _ => exact h8
  | 9, _ => exact h9
  | 10, _ => exact h10
  | 11, _ => exact h11
  | 12, _ => exact h12
  | 13, _ => exact h13
  | 14, _ => exact h14
  | 15, _ => exact h15
  | 16, _ => exact h16
  | 17, _ => exact h17
  | n + 18, h => omega
theorem Sat.hs (hS : Sat E w L) (A : HA) [h : Has A L M] : Sat E w (A :: M) := hS.perm h.perm
theorem Sat.hs2 (hS : Sat E w L) (A B : HA) {N : List HA} [h : Has A L M] [k : Has B M N] : Sat E w (A :: B :: N) := hS.perm (h.perm.trans (k.perm.cons _))
theorem tabs_fin {p : Z.Pr} {t e : Nat} {cs : List Value} {A : HA} (h : Sat E w (cel t ⟨e, cs⟩ :: tabs q T :: A :: M)) (hc : cs = tbCells p Z.St.new q) (hT : ∀ i, i < 18 → T i = Z.T0 p i) : Sat E w (cel t ⟨e, tbCells p Z.St.new q⟩ :: tabs q (Z.T0 p) :: M) := by
  rw [← hc, ← tabs_congr (fun _ _ => rfl) hT]
  exact h.to
end
attribute [local irreducible] oMv oV oU oCall oCallV oBi oBin oUn oLoad oStore oNil oFld oField oIdx oIndex oPick oAlloc oBox oBuild oBs oConv oMk oSl oExt oFn oIface oMap oLook oMapUp oRange oNext oEntry oInv oAssert oPanic oRes pN pA pL pDr pIf gA pGd

section
variable {E w W : World} {M N : List HA} {Q : Value → World → Prop} {p : Z.Pr} {s : Z.St} {t : Nat} {q : Nat → Nat} {T : Nat → List Int}

theorem row_ok (hS : Sat E w M) (n : Int) (h0 : 0 ≤ n) (h1 : n ≤ 1048576) (hQ : ∀ b w, Sat E w (PSet b (List.replicate n.toNat 1024) :: M) → Q (pz b) w) : Calls Tryz.prog 98 #[.int .i64 n] w (retP Q) := by
  refine model_row.calls ?_
  unfold model_row.F
  refine pc_prob_New (New_ok hS n h0 h1 fun b w hS => ?_)
  repeat' (first | refine pN_v (hk := ?_) | fail)
  exact hQ _ _ hS

theorem lengths_ok (hS : Sat E w M) (hQ : ∀ a b c d w, Sat E w (PSet a (List.replicate 2 1024) :: PSet b (List.replicate 128 1024) :: PSet c (List.replicate 128 1024) :: PSet d (List.replicate 256 1024) :: M) → Q (.agg #[pz a, pz b, pz c, pz d]) w) : Calls Tryz.prog 99 #[] w (retP Q) := by
  refine model_lengths.calls ?_
  unfold model_lengths.F
  repeat' (first | (refine pN_nz hS ?_; clear hS; intro a w hS) | fail)
  refine pc_model_row (row_ok hS 2 (by omega) (by omega) fun b1 w hS => ?_)
  refine pc_model_row (row_ok hS 128 (by omega) (by omega) fun b2 w hS => ?_)
  refine pc_model_row (row_ok hS 128 (by omega) (by omega) fun b3 w hS => ?_)
  refine pc_model_row (row_ok hS 256 (by omega) (by omega) fun b4 w hS => ?_)
  repeat' (first | refine pL_ra hS (by rfl) ?_ | (refine pN_sa hS (by rfl) (by rfl) (by rfl) ?_; clear hS; intro w hS; try dsimp only at hS) | refine pN_v (hk := ?_) | fail)
  simp only [Int.reduceToNat] at hS
  exact hQ _ _ _ _ _ hS.to

set_option maxRecDepth 8000 in
theorem MNew_ok (hp : p.Ok) (hS : Sat E w M) (hQ : ∀ t q w, Sat E w (cel t ⟨141, tbCells p Z.St.new q⟩ :: tabs q (Z.T0 p) :: M) → Q (pz t) w) : Calls Tryz.prog 61 #[.agg #[.int .i64 p.lc, .int .i64 p.lp, .int .i64 p.pb]] w (retP Q) := by
  refine model_New.calls ?_
  unfold model_New.F
  have hp' := hp
  obtain ⟨h1, h2, h3, h4, h5⟩ := hp'
  have hpow : (2 : Int) ^ (p.lc + p.lp).toNat ≤ 2 ^ 4 := two_le' (by omega)
  have hpow0 : (0 : Int) < 2 ^ (p.lc + p.lp).toNat := Int.pow_pos (by omega)
  have e4 : (2 : Int) ^ 4 = 16 := by decide
  have hwr : IntKind.i64.wrap (768 * 2 ^ (p.lc + p.lp).toNat) = 768 * 2 ^ (p.lc + p.lp).toNat := wrap_i64 (by omega)
  repeat' (first | (rw [hwr]; refine pc_model_row (row_ok hS _ (by omega) (by omega) ?_); clear hS; intro b w hS) | refine ⟨⟨run_l hS (by rfl), run_l hS (by rfl), run_la_at hS _ (by rfl) (by rfl), trivial⟩, ?_⟩ | refine ⟨⟨run_la_at hS _ (by rfl) (by rfl), trivial⟩, ?_⟩ | refine pA_shl_k (p.lc + p.lp).toNat (Int.toNat_of_nonneg (by omega)).symm (by show _ ≤ 64; omega) ?_ | (refine pc_model_row (row_ok hS _ (by omega) (by omega) ?_); clear hS; intro b w hS) | (refine pc_model_lengths (lengths_ok hS ?_); clear hS; intro b1 b2 b3 b4 w hS) | (refine pc_state_New (SNew_ok hS ?_); clear hS; intro w hS) | refine pL_l hS (by first | rfl | assumption) ?_ | refine pL_la hS (by rfl) ?_ | (refine pDr_go hS ?_; clear hS; intro w hS) | (refine pN_bx hS (by rfl) ?_; clear hS; intro a w hS) | refine ⟨trivial, ?_⟩ | refine pN_v (hk := ?_) | refine pA_v (hk := ?_) | fail)
  have e6 : ((768 : Int) * 2 ^ (p.lc + p.lp).toNat).toNat = 768 * 2 ^ (p.lc + p.lp).toNat := by
    have : (768 : Int) * 2 ^ (p.lc + p.lp).toNat = ((768 * 2 ^ (p.lc + p.lp).toNat : Nat) : Int) := by push_cast; rfl
    rw [this, Int.toNat_natCast]
  simp only [Int.reduceToNat, e6] at hS
  exact hQ a _ _ (tabs_fin (tabs_new hS) rfl (all18 rfl rfl rfl rfl rfl rfl rfl rfl rfl rfl rfl rfl rfl rfl rfl rfl rfl rfl))

theorem PlaceState_ok (hS : Sat E w (cel t ⟨141, tbCells p s q⟩ :: M)) (hp : p.Ok) (n : Int) (h0 : 0 ≤ n) (h1 : n ≤ 4611686018427387904) (hQ : ∀ w, Sat E w (cel t ⟨141, tbCells p s q⟩ :: M) → Q (.int .i64 (Z.place p n)) w) :
    Calls Tryz.prog 142 #[pz t, .int .i64 n] w (retP Q) := by
  refine model_Tables_PlaceState.calls ?_
  unfold model_Tables_PlaceState.F
  obtain ⟨h2, h3, h4, h5, h6⟩ := hp
  have hpow : (2 : Int) ^ p.pb.toNat ≤ 2 ^ 4 := two_le' (by omega)
  have hpow0 : (0 : Int) < 2 ^ p.pb.toNat := Int.pow_pos (by omega)
  have e4 : (2 : Int) ^ 4 = 16 := by decide
  unfold Z.place at hQ
  repeat' (first | refine pN_shl_k p.pb.toNat (Int.toNat_of_nonneg (by omega)).symm (by show _ ≤ 64; omega) ?_ | refine pN_l hS (by first | rfl | assumption) ?_ | refine pN_v (hk := ?_) | fail)
  have e : (1 : Int) * 2 ^ p.pb.toNat - 1 = 2 ^ p.pb.toNat - 1 := by omega
  have hb0 := Int.emod_nonneg n (show (2 : Int) ^ p.pb.toNat ≠ 0 by omega)
  have hb1 := Int.emod_lt_of_pos n hpow0
  rw [e, pN_andn p.pb.toNat _ _ rfl rfl (by show _ < 64; omega) (wrap_i64 (by omega))]
  exact hQ _ hS

theorem place_bd (hp : p.Ok) (n : Int) : 0 ≤ Z.place p n ∧ Z.place p n < 16 := by
  obtain ⟨h2, h3, h4, h5, h6⟩ := hp
  have hpow : (2 : Int) ^ p.pb.toNat ≤ 2 ^ 4 := two_le' (by omega)
  have hpow0 : (0 : Int) < 2 ^ p.pb.toNat := Int.pow_pos (by omega)
  have e4 : (2 : Int) ^ 4 = 16 := by decide
  have hb0 := Int.emod_nonneg n (show (2 : Int) ^ p.pb.toNat ≠ 0 by omega)
  have hb1 := Int.emod_lt_of_pos n hpow0
  unfold Z.place
  omega

theorem MAt_ok (hS : Sat E w (cel t ⟨141, tbCells p s q⟩ :: M)) (hp : p.Ok) (hs : s.Right) (n : Int) (h0 : 0 ≤ n) (h1 : n ≤ 4611686018427387904) (hQ : ∀ w, Sat E w (cel t ⟨141, tbCells p s q⟩ :: M) → Q (.int .i64 (s.num * 16 + Z.place p n)) w) :
    Calls Tryz.prog 102 #[pz t, .int .i64 n] w (retP Q) := by
  refine model_Tables_At.calls ?_
  unfold model_Tables_At.F
  have hn := hs.num
  have hpl := place_bd hp n
  repeat' (first | (refine pc_model_Tables_PlaceState (PlaceState_ok (hS.fd (cel t)) hp n h0 h1 ?_); clear hS; intro w hS) | refine pL_l hS (by first | rfl | assumption) ?_ | (refine pDr_go hS ?_; clear hS; intro w hS) | refine ⟨⟨(by first | exact run_l hS (by first | rfl | assumption) | exact run_st hS (by first | rfl | omega) | exact run_ld1 ha hS | exact fun _ => run_l hS (by rfl) | exact fun _ => run_st hS (by first | rfl | omega) | exact fun _ => run_ld1 ha hS | exact fun h => Bool.noConfusion h), trivial⟩, ?_⟩ | refine pA_v (hk := ?_) | fail)
  exact hQ _ hS

set_option maxRecDepth 8000 in
theorem context_bd (hp : p.Ok) (n b : Int) (b0 : 0 ≤ b) (b1 : b < 256) : 0 ≤ Z.context p n b ∧ Z.context p n b + 768 ≤ Z.tabLen p 6 := by
  obtain ⟨h2, h3, h4, h5, h6⟩ := hp
  have hpow0 : (0 : Int) < 2 ^ p.lp.toNat := Int.pow_pos (by omega)
  have hb0 := Int.emod_nonneg n (show (2 : Int) ^ p.lp.toNat ≠ 0 by omega)
  have hb1 := Int.emod_lt_of_pos n hpow0
  have hpc0 : (0 : Int) < 2 ^ p.lc.toNat := Int.pow_pos (by omega)
  have hy0 : 0 ≤ b / 2 ^ (8 - p.lc).toNat := Int.ediv_nonneg (by omega) (Int.pow_nonneg (by omega))
  have hy1 : b / 2 ^ (8 - p.lc).toNat < 2 ^ p.lc.toNat := by
    refine Int.ediv_lt_of_lt_mul (Int.pow_pos (by omega)) ?_
    rw [← Int.pow_add, show p.lc.toNat + (8 - p.lc).toNat = 8 from by omega]
    exact b1
  have hx0 : 0 ≤ n % 2 ^ p.lp.toNat * 2 ^ p.lc.toNat := Int.mul_nonneg hb0 (by omega)
  have hx1 : n % 2 ^ p.lp.toNat * 2 ^ p.lc.toNat ≤ (2 ^ p.lp.toNat - 1) * 2 ^ p.lc.toNat := Int.mul_le_mul_of_nonneg_right (by omega) (by omega)
  rw [Int.sub_mul, ← Int.pow_add, Int.one_mul] at hx1
  have e : (Z.tabLen p 6 : Int) = 768 * 2 ^ (p.lp.toNat + p.lc.toNat) := by
    have : Z.tabLen p 6 = 768 * 2 ^ (p.lp.toNat + p.lc.toNat) := by
      show 768 * 2 ^ (p.lc + p.lp).toNat = _
      congr 2
      omega
    rw [this]; push_cast; rfl
  rw [e]
  unfold Z.context
  omega

theorem Context_ok (hS : Sat E w (cel t ⟨141, tbCells p s q⟩ :: M)) (hp : p.Ok) (n : Int) (h0 : 0 ≤ n) (h1 : n ≤ 4611686018427387904) (b : UInt8) (hQ : ∀ w, Sat E w (cel t ⟨141, tbCells p s q⟩ :: M) → Q (.int .i64 (Z.context p n b.toNat)) w) :
    Calls Tryz.prog 143 #[pz t, .int .i64 n, bv b] w (retP Q) := by
  refine model_Tables_Context.calls ?_
  unfold model_Tables_Context.F
  obtain ⟨h2, h3, h4, h5, h6⟩ := hp
  have hpow : (2 : Int) ^ p.lp.toNat ≤ 2 ^ 4 := two_le' (by omega)
  have hpow0 : (0 : Int) < 2 ^ p.lp.toNat := Int.pow_pos (by omega)
  have e4 : (2 : Int) ^ 4 = 16 := by decide
  have e : (1 : Int) * 2 ^ p.lp.toNat - 1 = 2 ^ p.lp.toNat - 1 := by omega
  have hb0 := Int.emod_nonneg n (show (2 : Int) ^ p.lp.toNat ≠ 0 by omega)
  have hb1 := Int.emod_lt_of_pos n hpow0
  have hpc : (2 : Int) ^ p.lc.toNat ≤ 2 ^ 4 := two_le' (by omega)
  have hpc0 : (0 : Int) < 2 ^ p.lc.toNat := Int.pow_pos (by omega)
  have hx0 : 0 ≤ n % 2 ^ p.lp.toNat * 2 ^ p.lc.toNat := Int.mul_nonneg hb0 (by omega)
  have hx1 : n % 2 ^ p.lp.toNat * 2 ^ p.lc.toNat ≤ 16 * 16 := Int.mul_le_mul (by omega) (by omega) (by omega) (by omega)
  have hy0 : 0 ≤ (b.toNat : Int) / 2 ^ (8 - p.lc).toNat := Int.ediv_nonneg (by omega) (Int.pow_nonneg (by omega))
  have hy1 : (b.toNat : Int) / 2 ^ (8 - p.lc).toNat ≤ b.toNat := Int.ediv_le_self _ (by omega)
  have hb := b.toNat_lt
  unfold Z.context at hQ
  repeat' (first | refine pA_shl_k p.lp.toNat (Int.toNat_of_nonneg (by omega)).symm (by show _ ≤ 64; omega) ?_ | refine pA_shl_k p.lc.toNat (Int.toNat_of_nonneg (by omega)).symm (by show _ ≤ 64; omega) ?_ | refine pA_shr_k (8 - p.lc).toNat (Int.toNat_of_nonneg (by omega)).symm (by show _ ≤ 64; omega) ?_ | (rw [e, pA_andn p.lp.toNat _ _ rfl rfl (by show _ < 64; omega) (wrap_i64 (by omega))]) | refine pL_ofb ?_ | refine pL_l hS (by first | rfl | assumption) ?_ | (refine pDr_go hS ?_; clear hS; intro w hS) | refine pN_v (hk := ?_) | refine pA_v (hk := ?_) | fail)
  exact hQ _ hS

theorem RestAt_ok (n : Int) (h0 : 0 ≤ n) (h1 : n ≤ 13) (hQ : Q (.int .i64 (Z.restAt n)) w) :
    Calls Tryz.prog 148 #[.int .i64 n] w (retP Q) := by
  refine model_RestAt.calls ?_
  unfold model_RestAt.F
  refine ⟨fun a k w' => ∃ i : Int, a = .int .i64 (Z.restAt i) ∧ k = .int .i64 i ∧ 4 ≤ i ∧ (i ≤ n ∨ i = 4) ∧ w' = w, fun _ k _ => (14 - RowKit.intOf k).toNat, ⟨4, rfl, rfl, by omega, .inr rfl, rfl⟩, ?_⟩
  rintro _ _ _ w1 ⟨i, rfl, rfl, h2, h3, rfl⟩
  by_cases hlt : i < n
  · obtain ⟨r1, r2, r3, r4, r5, r6⟩ := Z.rest_step i h2 (by omega)
    repeat' (first | refine pc_state_Range (Range_in _ (by omega) (by omega) ?_) | refine pN_shl_k _ rfl (by show _ ≤ 64; omega) ?_ | (refine pN_lss_s ?_ ?_ <;> intro hc <;> try (exfalso; omega)) | refine pIf_t ?_ | refine pN_v (hk := ?_) | fail)
    refine ⟨⟨i + 1, ?_, rfl, by omega, .inl (by omega), rfl⟩, by simp [RowKit.intOf]; omega⟩
    rw [r1]
  · repeat' (first | (refine pN_lss_s ?_ ?_ <;> intro hc <;> try (exfalso; omega)) | refine pIf_f ?_ | fail)
    have e : Z.restAt i = Z.restAt n := by
      by_cases h5 : i = n
      · rw [h5]
      · obtain rfl : i = 4 := by omega
        unfold Z.restAt
        rw [if_pos (by omega), if_pos (by omega)]
    rw [← e] at hQ
    exact hQ

theorem Late_ok (n : Int) (hQ : Q (.bool (decide (14 ≤ n))) w) : Calls Tryz.prog 147 #[.int .i64 n] w (retP Q) := by
  refine model_Late.calls ?_
  unfold model_Late.F
  repeat' (first | (refine pN_geq_s ?_ ?_ <;> intro hc <;> try (exfalso; omega)) | fail)
  · rw [decide_eq_true hc] at hQ; exact hQ
  · rw [decide_eq_false hc] at hQ; exact hQ
end

end Go.Proofs.YtbgnnjfpiblkmaaGreatDoor

namespace Go.Proofs.YtbgnnjfpiblkmaaGreatDoor
open Go

def RWin (b : Nat) (x : Z.W) : HA := fun h => ∃ s : Sl, Sats [cel b ⟨193, [.int .i64 x.size, .slice s.a x.all.length s.c]⟩, rows cd_uint8 s x.all] h
section
variable {E w : World} {M : List HA} {b : Nat} {x : Z.W}
theorem RWin.opn (hS : Sat E w (RWin b x :: M)) : ∃ s : Sl, Sat E w (cel b ⟨193, [.int .i64 x.size, .slice s.a x.all.length s.c]⟩ :: rows cd_uint8 s x.all :: M) := by
  obtain ⟨s, hS⟩ := hS.ex
  exact ⟨s, hS.open_ (M := [_, _]) fun _ h => h⟩
theorem RWin.shut {s : Sl} (hS : Sat E w (cel b ⟨193, [.int .i64 x.size, .slice s.a x.all.length s.c]⟩ :: rows cd_uint8 s x.all :: M)) : Sat E w (RWin b x :: M) :=
  Sat.shut (M := [_, _]) hS fun _ h => ⟨s, h⟩
end
attribute [local irreducible] oMv oV oU oCall oCallV oBi oBin oUn oLoad oStore oNil oFld oField oIdx oIndex oPick oAlloc oBox oBuild oBs oConv oMk oSl oExt oFn oIface oMap oLook oMapUp oRange oNext oEntry oInv oAssert oPanic oRes pN pA pL pDr pIf gA pGd

section
variable {E w : World} {M : List HA} {Q : Value → World → Prop} {b : Nat} {x : Z.W}

theorem R10New_in (hS : Sat E w M) (n : Int) (h0 : 1 ≤ n) (h1 : n ≤ 4294967295) (hQ : ∀ b w, Sat E w (RWin b ⟨n, []⟩ :: M) → Q (.tuple #[pz b, .int .i64 0]) w) :
    Calls Tryz.prog 64 #[.int .i64 n] w (retP Q) := by
  refine pithref10_New.calls ?_
  unfold pithref10_New.F
  repeat' (first | ((first | refine pN_lss_s ?_ ?_ | refine pN_gtr_s ?_ ?_) <;> intro hc <;> try (exfalso; omega)) | refine pIf_f ?_ | refine pGd_go (by rfl) ?_ | (refine pN_bx hS (by rfl) ?_; clear hS; intro a w hS) | refine pN_v (hk := ?_) | fail)
  have hS : Sat E _ (rows cd_uint8 ⟨none, 0⟩ [] :: _) := hS.nil 5 1
  have hS3 : Sat E _ (cel a ⟨193, [.int .i64 n, .slice none 0 0]⟩ :: rows cd_uint8 ⟨none, 0⟩ [] :: M) := hS.to
  exact hQ _ _ (RWin.shut (x := ⟨n, []⟩) (s := ⟨none, 0⟩) hS3)
theorem R10New_no (hS : Sat E w M) (n : Int) (h : ¬ (1 ≤ n ∧ n ≤ 4294967295)) (hQ : ∀ w, Sat E w M → Q (.tuple #[.pointer none, .int .i64 7]) w) :
    Calls Tryz.prog 64 #[.int .i64 n] w (retP Q) := by
  refine pithref10_New.calls ?_
  unfold pithref10_New.F
  by_cases h1 : n < 1
  · repeat' (first | (refine pN_lss_s ?_ ?_ <;> intro hc <;> try (exfalso; omega)) | refine pIf_t ?_ | refine pGd_no (by rfl) ?_ | refine pN_v (hk := ?_) | fail)
    exact hQ _ hS
  · repeat' (first | ((first | refine pN_lss_s ?_ ?_ | refine pN_gtr_s ?_ ?_) <;> intro hc <;> try (exfalso; omega)) | refine pIf_t ?_ | refine pGd_go (by rfl) ?_ | refine pN_v (hk := ?_) | fail)
    exact hQ _ hS

theorem R10Full_ok (hS : Sat E w (RWin b x :: M)) (h0 : 0 ≤ x.size) (hQ : ∀ w, Sat E w (RWin b x :: M) → Q (.int .i64 x.full) w) :
    Calls Tryz.prog 178 #[pz b] w (retP Q) := by
  refine pithref10_Window_Full.calls ?_
  unfold pithref10_Window_Full.F
  obtain ⟨s, hS⟩ := RWin.opn hS
  unfold Z.W.full at hQ
  by_cases h : (x.all.length : Int) < x.size
  · rw [Nat.min_eq_left (by omega)] at hQ
    repeat' (first | (refine pA_lss_s ?_ ?_ <;> intro hc <;> try (exfalso; omega)) | refine pIf_t ?_ | refine pN_l hS (by first | rfl | assumption) ?_ | refine pL_l hS (by first | rfl | assumption) ?_ | (refine pDr_go hS ?_; clear hS; intro w hS) | refine pN_v (hk := ?_) | refine pA_v (hk := ?_) | fail)
    have hS3 : Sat E _ (cel b ⟨193, [.int .i64 x.size, .slice s.a x.all.length s.c]⟩ :: rows cd_uint8 s x.all :: M) := hS.to
    exact hQ _ (RWin.shut (x := x) (s := s) hS3)
  · rw [Nat.min_eq_right (by omega)] at hQ
    have e : ((x.size.toNat : Nat) : Int) = x.size := by omega
    rw [e] at hQ
    repeat' (first | (refine pA_lss_s ?_ ?_ <;> intro hc <;> try (exfalso; omega)) | refine pIf_f ?_ | refine pN_l hS (by first | rfl | assumption) ?_ | refine pL_l hS (by first | rfl | assumption) ?_ | (refine pDr_go hS ?_; clear hS; intro w hS) | refine pN_v (hk := ?_) | refine pA_v (hk := ?_) | fail)
    have hS3 : Sat E _ (cel b ⟨193, [.int .i64 x.size, .slice s.a x.all.length s.c]⟩ :: rows cd_uint8 s x.all :: M) := hS.to
    exact hQ _ (RWin.shut (x := x) (s := s) hS3)
theorem R10Has_ok (hS : Sat E w (RWin b x :: M)) (h0 : 0 ≤ x.size) (d : Int) (hQ : ∀ w, Sat E w (RWin b x :: M) → Q (.bool (decide (x.has d))) w) :
    Calls Tryz.prog 162 #[pz b, .int .i64 d] w (retP Q) := by
  refine pithref10_Window_Has.calls ?_
  unfold pithref10_Window_Has.F
  by_cases h : x.has d
  · rw [decide_eq_true h] at hQ
    obtain ⟨h1, h2⟩ := h
    repeat' (first | (refine pc_pithref10_Window_Full (R10Full_ok hS h0 ?_); clear hS; intro w hS) | ((first | refine pN_leq_s ?_ ?_ | refine pN_gtr_s ?_ ?_) <;> intro hc <;> try (exfalso; omega)) | refine pGd_go (by rfl) ?_ | refine pN_v (hk := ?_) | fail)
    exact hQ _ hS
  · rw [decide_eq_false h] at hQ
    unfold Z.W.has at h
    by_cases h1 : 1 ≤ d
    · repeat' (first | (refine pc_pithref10_Window_Full (R10Full_ok hS h0 ?_); clear hS; intro w hS) | ((first | refine pN_leq_s ?_ ?_ | refine pN_gtr_s ?_ ?_) <;> intro hc <;> try (exfalso; omega)) | refine pGd_go (by rfl) ?_ | refine pN_v (hk := ?_) | fail)
      exact hQ _ hS
    · repeat' (first | (refine pN_gtr_s ?_ ?_ <;> intro hc <;> try (exfalso; omega)) | refine pGd_no (by rfl) ?_ | refine pN_v (hk := ?_) | fail)
      exact hQ _ hS
theorem R10Last_in (hS : Sat E w (RWin b x :: M)) (h0 : 0 ≤ x.size) (hl : x.all.length ≤ 140737488355328) (d : Int) (hd : x.has d) (hQ : ∀ w, Sat E w (RWin b x :: M) → Q (.tuple #[bv (x.last d.toNat), .int .i64 0]) w) :
    Calls Tryz.prog 153 #[pz b, .int .i64 d] w (retP Q) := by
  refine pithref10_Window_Last.calls ?_
  unfold pithref10_Window_Last.F
  have hd' := hd
  obtain ⟨h1, h2⟩ := hd'
  unfold Z.W.full at h2
  refine pc_pithref10_Window_Has (R10Has_ok hS h0 d fun w hS => ?_)
  rw [decide_eq_true hd]
  obtain ⟨s, hS⟩ := RWin.opn hS
  obtain ⟨c, hc⟩ : ∃ c, x.all[x.all.length - d.toNat]? = some c := ⟨_, List.getElem?_eq_getElem (by omega)⟩
  have e : x.last d.toNat = c := by unfold Z.W.last; rw [hc]; rfl
  rw [e] at hQ
  repeat' (first | refine pA_ixk hS (x.all.length - d.toNat) (by omega) rfl hc (fun a ha hel => ?_) | refine pIf_f ?_ | refine pL_l hS (by first | rfl | assumption) ?_ | refine pL_ld1 ha hS ?_ | (refine pDr_go hS ?_; clear hS; intro w hS) | refine pN_v (hk := ?_) | refine pA_v (hk := ?_) | fail)
  have hS3 : Sat E _ (cel b ⟨193, [.int .i64 x.size, .slice s.a x.all.length s.c]⟩ :: rows cd_uint8 s x.all :: M) := hS.to
  exact hQ _ (RWin.shut (x := x) (s := s) hS3)
theorem R10Last_no (hS : Sat E w (RWin b x :: M)) (h0 : 0 ≤ x.size) (d : Int) (hd : ¬ x.has d) (hQ : ∀ w, Sat E w (RWin b x :: M) → Q (.tuple #[bv 0, .int .i64 7]) w) :
    Calls Tryz.prog 153 #[pz b, .int .i64 d] w (retP Q) := by
  refine pithref10_Window_Last.calls ?_
  unfold pithref10_Window_Last.F
  refine pc_pithref10_Window_Has (R10Has_ok hS h0 d fun w hS => ?_)
  rw [decide_eq_false hd]
  repeat' (first | refine pIf_t ?_ | refine pN_v (hk := ?_) | fail)
  exact hQ _ hS
theorem R10Put_ok {s0 : Sl} {l : List UInt8} (hS : Sat E w (RWin b x :: M)) [hl : Rds cd_uint8 M s0 l] (hn : x.all.length + l.length ≤ 140737488355328) (hQ : ∀ w, Sat E w (RWin b (x.put l) :: M) → Q (.tuple #[]) w) :
    Calls Tryz.prog 78 #[pz b, .slice s0.a l.length s0.c] w (retP Q) := by
  refine pithref10_Window_Put.calls ?_
  unfold pithref10_Window_Put.F
  obtain ⟨s, hS⟩ := RWin.opn hS
  repeat' (first | refine pN_l hS (by first | rfl | assumption) ?_ | (refine pN_s hS (by first | exact Nat.le_of_ble_eq_true rfl | assumption) (by rfl) ?_; clear hS; intro w hS; try simp only [List.set_cons_zero, List.set_cons_succ] at hS) | (refine pN_app hS (by first | rfl | omega | simpa only [go_sem] using True.intro | (simp only [go_sem]; omega)) (by first | rfl | omega | simpa only [go_sem] using True.intro | (simp only [go_sem]; omega)) (by first | omega | (simp only [go_sem]; omega)) ?_; clear hS; intro s w hS) | refine pN_v (hk := ?_) | fail)
  have hS3 : Sat E _ (cel b ⟨193, [.int .i64 x.size, .slice s.a (x.all ++ l).length s.c]⟩ :: rows cd_uint8 s (x.all ++ l) :: M) := hS.to
  exact hQ _ (RWin.shut (x := x.put l) hS3)
theorem R10Clear_ok (hS : Sat E w (RWin b x :: M)) (hQ : ∀ w, Sat E w (RWin b ⟨x.size, []⟩ :: M) → Q (.tuple #[]) w) :
    Calls Tryz.prog 79 #[pz b] w (retP Q) := by
  refine pithref10_Window_Clear.calls ?_
  unfold pithref10_Window_Clear.F
  obtain ⟨s, hS⟩ := RWin.opn hS
  repeat' (first | (refine pN_s hS (by first | exact Nat.le_of_ble_eq_true rfl | assumption) (by rfl) ?_; clear hS; intro w hS; try simp only [List.set_cons_zero, List.set_cons_succ] at hS) | refine pN_v (hk := ?_) | fail)
  have hS : Sat E _ (rows cd_uint8 ⟨none, 0⟩ [] :: _) := hS.nil 5 1
  have hS3 : Sat E _ (cel b ⟨193, [.int .i64 x.size, .slice none 0 0]⟩ :: rows cd_uint8 ⟨none, 0⟩ [] :: M) := hS.to
  exact hQ _ (RWin.shut (x := ⟨x.size, []⟩) (s := ⟨none, 0⟩) hS3)
theorem R10Copy_no (hS : Sat E w (RWin b x :: M)) (h0 : 0 ≤ x.size) (d n : Int) (h : ¬ (x.has d ∧ 0 ≤ n ∧ n ≤ 273)) (hQ : ∀ w, Sat E w (RWin b x :: M) → Q (.tuple #[.slice none 0 0, .int .i64 7]) w) :
    Calls Tryz.prog 120 #[pz b, .int .i64 d, .int .i64 n] w (retP Q) := by
  refine pithref10_Window_Copy.calls ?_
  unfold pithref10_Window_Copy.F
  refine pc_pithref10_Window_Has (R10Has_ok hS h0 d fun w hS => ?_)
  by_cases hd : x.has d
  · rw [decide_eq_true hd]
    have h2 : ¬ (0 ≤ n ∧ n ≤ 273) := fun hh => h ⟨hd, hh⟩
    by_cases hn : n < 0
    · repeat' (first | (refine pN_lss_s ?_ ?_ <;> intro hc <;> try (exfalso; omega)) | refine pIf_t ?_ | refine pGd_go (by rfl) ?_ | refine pGd_no (by rfl) ?_ | refine pN_v (hk := ?_) | fail)
      exact hQ _ hS
    · repeat' (first | ((first | refine pN_lss_s ?_ ?_ | refine pN_gtr_s ?_ ?_) <;> intro hc <;> try (exfalso; omega)) | refine pIf_t ?_ | refine pGd_go (by rfl) ?_ | refine pN_v (hk := ?_) | fail)
      exact hQ _ hS
  · rw [decide_eq_false hd]
    repeat' (first | refine pIf_t ?_ | refine pGd_no (by rfl) ?_ | refine pN_v (hk := ?_) | fail)
    exact hQ _ hS
theorem R10Copy_in (hS : Sat E w (RWin b x :: M)) (h0 : 0 ≤ x.size) (d n : Nat) (hd : x.has d) (hn : n ≤ 273) (hb : x.all.length + n ≤ 140737488355328)
    (hQ : ∀ s w, Sat E w (rows cd_uint8 s (Z.cpy x.all d n) :: RWin b ⟨x.size, x.all ++ Z.cpy x.all d n⟩ :: M) → Q (.tuple #[.slice s.a n s.c, .int .i64 0]) w) :
    Calls Tryz.prog 120 #[pz b, .int .i64 d, .int .i64 n] w (retP Q) := by
  refine pithref10_Window_Copy.calls ?_
  unfold pithref10_Window_Copy.F
  refine pc_pithref10_Window_Has (R10Has_ok hS h0 d fun w hS => ?_)
  rw [decide_eq_true hd]
  have hd' := hd
  unfold Z.W.has Z.W.full at hd'
  obtain ⟨hd1, hd2⟩ := hd'
  obtain ⟨s, hS⟩ := RWin.opn hS
  repeat' (first | ((first | refine pN_lss_s ?_ ?_ | refine pN_gtr_s ?_ ?_) <;> intro hc <;> try (exfalso; omega)) | refine pIf_f ?_ | refine pGd_go (by rfl) ?_ | refine pN_v (hk := ?_) | fail)
  have hS : Sat E _ (rows cd_uint8 ⟨none, 0⟩ [] :: _) := hS.nil 5 1
  refine ⟨fun v v2 w => ∃ (i : Nat) (s s1 : Sl), i ≤ n ∧ v = .slice s1.a (Z.cpy x.all d i).length s1.c ∧ v2 = .int .i64 i ∧
    Sat E w (cel b ⟨193, [.int .i64 x.size, .slice s.a (x.all ++ Z.cpy x.all d i).length s.c]⟩ :: rows cd_uint8 s (x.all ++ Z.cpy x.all d i) :: rows cd_uint8 s1 (Z.cpy x.all d i) :: M), fun _ v _ => match v with | .int _ i => (n - i).toNat | _ => 0,
    ⟨0, s, ⟨none, 0⟩, Nat.zero_le _, rfl, rfl, by
      have e : x.all ++ Z.cpy x.all d 0 = x.all := by rw [Z.cpy, List.append_nil]
      have e2 : Z.cpy x.all d 0 = [] := rfl
      rw [e, e2]; exact hS.to⟩, ?_⟩
  clear hS
  rintro _ _ _ w ⟨i, s, s1, hi, rfl, rfl, hS⟩
  have hli := Z.cpy_len x.all d i
  by_cases h : i < n
  · obtain ⟨c, hc⟩ : ∃ c, (x.all ++ Z.cpy x.all d i)[(x.all ++ Z.cpy x.all d i).length - d]? = some c := ⟨_, List.getElem?_eq_getElem (by rw [List.length_append]; omega)⟩
    have hla : (x.all ++ Z.cpy x.all d i).length = x.all.length + i := by rw [List.length_append, hli]
    have e : Z.cpy x.all d (i + 1) = Z.cpy x.all d i ++ [c] := by rw [Z.cpy, hc]; rfl
    have hxc : ∀ (k : Nat) (y : UInt8), (x.all ++ Z.cpy x.all d i)[k]? = some y → k = (x.all ++ Z.cpy x.all d i).length - d → y = c := fun k y h1 h2 => by
      rw [h2, hc] at h1; exact (Option.some.inj h1).symm
    have fin : ∀ w (s s1 : Sl), Sat E w (cel b ⟨193, [.int .i64 x.size, .slice s.a (x.all ++ Z.cpy x.all d i ++ [c]).length s.c]⟩ :: rows cd_uint8 s (x.all ++ Z.cpy x.all d i ++ [c]) :: rows cd_uint8 s1 (Z.cpy x.all d i ++ [c]) :: M) →
        Sat E w (cel b ⟨193, [.int .i64 x.size, .slice s.a (x.all ++ Z.cpy x.all d (i + 1)).length s.c]⟩ :: rows cd_uint8 s (x.all ++ Z.cpy x.all d (i + 1)) :: rows cd_uint8 s1 (Z.cpy x.all d (i + 1)) :: M) := fun w s s1 h => by
      rw [e, ← List.append_assoc]; exact h
    repeat' (first | (refine pN_lss_s ?_ ?_ <;> intro hc <;> try (exfalso; omega)) | refine pIf_t ?_ | refine pN_l hS (by first | rfl | assumption) ?_ | refine pL_l hS (by first | rfl | assumption) ?_ | refine pL_ld1 ha hS ?_ | (refine pN_s hS (by first | exact Nat.le_of_ble_eq_true rfl | assumption) (by rfl) ?_; clear hS; intro w hS; try simp only [List.set_cons_zero, List.set_cons_succ] at hS) | (refine pDr_go hS ?_; clear hS; intro w hS) | refine pA_ix hS _ (by first | rfl | (exact (Int.toNat_of_nonneg (by omega)).symm)) (by first | rfl | omega | simpa only [go_sem] using True.intro | (simp only [go_sem]; omega)) (by first | omega | (simp only [go_sem]; omega)) fun a x hx ha hel => ?_ | (refine pN_b1 hS (by rfl) (by decide) ?_; clear hS; intro s w hS) | (refine pN_app hS (by first | rfl | omega | simpa only [go_sem] using True.intro | (simp only [go_sem]; omega)) (by first | rfl | omega | simpa only [go_sem] using True.intro | (simp only [go_sem]; omega)) (by first | omega | (simp only [go_sem]; omega)) ?_; clear hS; intro s w hS) | refine pN_v (hk := ?_) | refine pA_v (hk := ?_) | fail)
    obtain rfl := hxc _ _ (by assumption) (by omega)
    rename_i sw _ _ _ _
    refine ⟨⟨i + 1, sw, s, h, ?_, rfl, fin _ sw s hS.to⟩, by simp only; omega⟩
    rw [e]
  · obtain rfl : i = n := by omega
    rw [hli]
    repeat' (first | (refine pN_lss_s ?_ ?_ <;> intro hc <;> try (exfalso; omega)) | refine pIf_f ?_ | fail)
    refine hQ _ _ ?_
    have hS3 : Sat E _ (cel b ⟨193, [.int .i64 x.size, .slice s.a (x.all ++ Z.cpy x.all d i).length s.c]⟩ :: rows cd_uint8 s (x.all ++ Z.cpy x.all d i) :: rows cd_uint8 s1 (Z.cpy x.all d i) :: M) := hS.to
    exact (RWin.shut (x := ⟨x.size, x.all ++ Z.cpy x.all d i⟩) (s := s) hS3).to
end

end Go.Proofs.YtbgnnjfpiblkmaaGreatDoor

namespace Go.Proofs.YtbgnnjfpiblkmaaGreatDoor
open Go
set_option maxRecDepth 100000

def pithref12_PropsByte.F [Pan] (x0 : Value) (w : World) (Q : Value → World → Prop) : Prop :=
 pN Tryz.prog (oBox 23 x0) w fun x1 w1 =>
 pN Tryz.prog (oLoad 23 x1) w1 fun x5 w2 =>
 pN Tryz.prog (oCall 100 [x5]) w2 fun x6 w3 =>
 pN Tryz.prog (oUn .not x6) w3 fun x8 w4 =>
 pIf x8
 (Q (.tuple #[(.int .i64 0), (.int .i64 6)]) w4)
 (pN Tryz.prog (oFld 23 x1 2) w4 fun x9 w5 =>
 pN Tryz.prog (oLoad 3 x9) w5 fun x10 w6 =>
 pN Tryz.prog (oBin .mul 3 (.const (.int .i64 5)) (.tmp 10) (.int .i64 5) x10) w6 fun x11 w7 =>
 pN Tryz.prog (oFld 23 x1 1) w7 fun x12 w8 =>
 pN Tryz.prog (oLoad 3 x12) w8 fun x13 w9 =>
 pN Tryz.prog (oBin .add 3 (.tmp 11) (.tmp 13) x11 x13) w9 fun x14 w10 =>
 pN Tryz.prog (oBin .mul 3 (.tmp 14) (.const (.int .i64 9)) x14 (.int .i64 9)) w10 fun x15 w11 =>
 pN Tryz.prog (oFld 23 x1 0) w11 fun x16 w12 =>
 pN Tryz.prog (oLoad 3 x16) w12 fun x17 w13 =>
 pN Tryz.prog (oBin .add 3 (.tmp 15) (.tmp 17) x15 x17) w13 fun x18 w14 =>
 Q (.tuple #[x18, (.int .i64 0)]) w14)
theorem pithref12_PropsByte.calls [Pan] {x0 : Value} {w : World} {Q : Value → World → Prop} (h : pithref12_PropsByte.F x0 w Q) : Calls Tryz.prog 63 #[x0] w (retP Q) := calls_lift mixed .z [x0] Tryz.func63 (by kernel_rfl) (by kernel_rfl) h

def pithref12_New.F [Pan]  (w : World) (Q : Value → World → Prop) : Prop :=
 pN Tryz.prog (oAlloc 69) w fun x0 w1 =>
 pN Tryz.prog (oBuild 67 [(0, (.int .i64 1)), (1, (.int .i64 1)), (2, (.int .i64 1)), (3, (.int .i64 1))]) w1 fun x1 w2 =>
 pN Tryz.prog (oBuild 69 [(1, x1)]) w2 fun x2 w3 =>
 pN Tryz.prog (oStore 69 x0 x2) w3 fun _ w4 =>
 pL Tryz.prog (oRes 69 x0) w4 fun r0 =>
 Q r0 w4
theorem pithref12_New.calls [Pan]  {w : World} {Q : Value → World → Prop} (h : pithref12_New.F  w Q) : Calls Tryz.prog 65 #[] w (retP Q) := calls_lift mixed .z [] Tryz.func65 (by kernel_rfl) (by kernel_rfl) h

def pithref12_Allowed.F [Pan] (x0 : Value) (w : World) (Q : Value → World → Prop) : Prop :=
 pN Tryz.prog (oBox 23 x0) w fun x1 w1 =>
 pN Tryz.prog (oFld 23 x1 0) w1 fun x3 w2 =>
 pN Tryz.prog (oLoad 3 x3) w2 fun x4 w3 =>
 pN Tryz.prog (oBin .geq 3 (.tmp 4) (.const (.int .i64 0)) x4 (.int .i64 0)) w3 fun x5 w4 =>
 pGd (gB x5 true) (pN Tryz.prog (oFld 23 x1 1) w4) w4 fun x7 w5 =>
 pGd (gB x5 true) (pN Tryz.prog (oLoad 3 x7) w5) w5 fun x8 w6 =>
 pGd (gB x5 true) (pN Tryz.prog (oBin .geq 3 (.tmp 8) (.const (.int .i64 0)) x8 (.int .i64 0)) w6) w6 fun x9 w7 =>
 pN Tryz.prog (oPick x5 x9 (.bool false)) w7 fun x10 w8 =>
 pGd (gB x10 true) (pN Tryz.prog (oFld 23 x1 2) w8) w8 fun x12 w9 =>
 pGd (gB x10 true) (pN Tryz.prog (oLoad 3 x12) w9) w9 fun x13 w10 =>
 pGd (gB x10 true) (pN Tryz.prog (oBin .geq 3 (.tmp 13) (.const (.int .i64 0)) x13 (.int .i64 0)) w10) w10 fun x14 w11 =>
 pN Tryz.prog (oPick x10 x14 (.bool false)) w11 fun x15 w12 =>
 pGd (gB x15 true) (pN Tryz.prog (oFld 23 x1 0) w12) w12 fun x17 w13 =>
 pGd (gB x15 true) (pN Tryz.prog (oLoad 3 x17) w13) w13 fun x18 w14 =>
 pGd (gB x15 true) (pN Tryz.prog (oBin .leq 3 (.tmp 18) (.const (.int .i64 4)) x18 (.int .i64 4)) w14) w14 fun x19 w15 =>
 pN Tryz.prog (oPick x15 x19 (.bool false)) w15 fun x20 w16 =>
 pGd (gB x20 true) (pN Tryz.prog (oFld 23 x1 1) w16) w16 fun x22 w17 =>
 pGd (gB x20 true) (pN Tryz.prog (oLoad 3 x22) w17) w17 fun x23 w18 =>
 pGd (gB x20 true) (pN Tryz.prog (oBin .leq 3 (.tmp 23) (.const (.int .i64 4)) x23 (.int .i64 4)) w18) w18 fun x24 w19 =>
 pN Tryz.prog (oPick x20 x24 (.bool false)) w19 fun x25 w20 =>
 pGd (gB x25 true) (pN Tryz.prog (oFld 23 x1 0) w20) w20 fun x27 w21 =>
 pGd (gB x25 true) (pN Tryz.prog (oLoad 3 x27) w21) w21 fun x28 w22 =>
 pGd (gB x25 true) (pN Tryz.prog (oFld 23 x1 1) w22) w22 fun x29 w23 =>
 pGd (gB x25 true) (pN Tryz.prog (oLoad 3 x29) w23) w23 fun x30 w24 =>
 pGd (gB x25 true) (pN Tryz.prog (oBin .add 3 (.tmp 28) (.tmp 30) x28 x30) w24) w24 fun x31 w25 =>
 pGd (gB x25 true) (pN Tryz.prog (oBin .leq 3 (.tmp 31) (.const (.int .i64 4)) x31 (.int .i64 4)) w25) w25 fun x32 w26 =>
 pN Tryz.prog (oPick x25 x32 (.bool false)) w26 fun x33 w27 =>
 pGd (gB x33 true) (pN Tryz.prog (oFld 23 x1 2) w27) w27 fun x35 w28 =>
 pGd (gB x33 true) (pN Tryz.prog (oLoad 3 x35) w28) w28 fun x36 w29 =>
 pGd (gB x33 true) (pN Tryz.prog (oBin .leq 3 (.tmp 36) (.const (.int .i64 4)) x36 (.int .i64 4)) w29) w29 fun x37 w30 =>
 pN Tryz.prog (oPick x33 x37 (.bool false)) w30 fun x38 w31 =>
 Q x38 w31
theorem pithref12_Allowed.calls [Pan] {x0 : Value} {w : World} {Q : Value → World → Prop} (h : pithref12_Allowed.F x0 w Q) : Calls Tryz.prog 100 #[x0] w (retP Q) := calls_lift mixed .z [x0] Tryz.func100 (by kernel_rfl) (by kernel_rfl) h

def pithref12_Next.H : Hints := { cut := fun | 10 => some ([], 70367670435840) | 15 => some ([9], 9443580044234683580928) | 19 => some ([], 9444732895370546251264) | _ => none, loop := fun | 14 => ([9, 10], 9444660908145252500992) | _ => ([], 0), order := fun  | _ => [] }
def pithref12_Next.F [Pan] (x0 x1 : Value) (w : World) (Q : Value → World → Prop) : Prop :=
 pN Tryz.prog (oBox 69 x0) w fun x2 w1 =>
 pN Tryz.prog (oBox 48 x1) w1 fun x3 w2 =>
 pN Tryz.prog (oAlloc 69) w2 fun x4 w3 =>
 pN Tryz.prog (oLoad 69 x2) w3 fun x11 w4 =>
 pN Tryz.prog (oCall 159 [x11]) w4 fun x12 w5 =>
 pN Tryz.prog (oUn .not x12) w5 fun x14 w6 =>
 pIf x14
 (pN Tryz.prog (oBuild 69 []) w6 fun x15 w7 =>
 pN Tryz.prog (oStore 69 x4 x15) w7 fun _ w8 =>
 pL Tryz.prog (oRes 69 x4) w8 fun r4 =>
 Q (.tuple #[r4, (.int .i64 7)]) w8)
 (pN Tryz.prog (oLoad 48 x3) w6 fun x16 w9 =>
 pN Tryz.prog (oCall 160 [x16]) w9 fun x17 w10 =>
 pN Tryz.prog (oBin .neq 3 (.tmp 18) (.const (.int .i64 0)) x17 (.int .i64 0)) w10 fun x19 w11 =>
 pIf x19
 (pN Tryz.prog (oBuild 69 []) w11 fun x20 w12 =>
 pN Tryz.prog (oStore 69 x4 x20) w12 fun _ w13 =>
 pL Tryz.prog (oRes 69 x4) w13 fun r4 =>
 Q (.tuple #[r4, x17]) w13)
 (pDr w11 fun w14 =>
 pA Tryz.prog (oFld 69 x2 0) fun x22 =>
 pL Tryz.prog (oLoad 3 x22) w14 fun x23 =>
 pA Tryz.prog (oFld 48 x3 0) fun x24 =>
 pL Tryz.prog (oLoad 3 x24) w14 fun x25 =>
 pA Tryz.prog (oFld 69 x2 1) fun x27 =>
 pL Tryz.prog (oLoad 67 x27) w14 fun x28 =>
 (pN Tryz.prog (oCall 161 [x23, x25]) w14 fun x26 w15 =>
 ((Sem.run Tryz.prog (oLoad 67 x27) w15 = .ok (.value x28) w15) ∧ True) ∧ ((pN Tryz.prog (oBuild 69 [(0, x26), (1, x28)]) w15 fun x29 w16 =>
 (True) ∧ (pN Tryz.prog (oAlloc 69) w16 fun x8 w17 =>
 (True) ∧ (pN Tryz.prog (oStore 69 x8 x29) w17 fun _ w18 =>
 (True) ∧ (∃ I10 : World → Prop,
 (pN Tryz.prog (oFld 48 x3 0) w18 fun x30 w19 =>
 pN Tryz.prog (oLoad 3 x30) w19 fun x31 w20 =>
 pN Tryz.prog (oBin .eql 3 (.tmp 31) (.const (.int .i64 2)) x31 (.int .i64 2)) w20 fun x32 w21 =>
 pIf x32
 (pN Tryz.prog (oFld 48 x3 3) w21 fun x33 w22 =>
 pN Tryz.prog (oLoad 3 x33) w22 fun x34 w23 =>
 pN Tryz.prog (oFld 69 x2 1) w23 fun x35 w24 =>
 pN Tryz.prog (oIdx 67 x35 (.int .i64 0)) w24 fun x36 w25 =>
 pN Tryz.prog (oLoad 3 x36) w25 fun x37 w26 =>
 pN Tryz.prog (oFld 69 x2 1) w26 fun x38 w27 =>
 pN Tryz.prog (oIdx 67 x38 (.int .i64 1)) w27 fun x39 w28 =>
 pN Tryz.prog (oLoad 3 x39) w28 fun x40 w29 =>
 pN Tryz.prog (oFld 69 x2 1) w29 fun x41 w30 =>
 pN Tryz.prog (oIdx 67 x41 (.int .i64 2)) w30 fun x42 w31 =>
 pN Tryz.prog (oLoad 3 x42) w31 fun x43 w32 =>
 pN Tryz.prog (oBuild 67 [(0, x34), (1, x37), (2, x40), (3, x43)]) w32 fun x44 w33 =>
 pN Tryz.prog (oFld 69 x8 1) w33 fun x45 w34 =>
 pN Tryz.prog (oStore 67 x45 x44) w34 fun _ w35 =>
 I10 w35)
 (I10 w21)) ∧
 ∀ (_j10 : Env) (w36 : World), I10 w36 →
 ∃ I19 : World → Prop,
 (pN Tryz.prog (oFld 48 x3 0) w36 fun x46 w37 =>
 pN Tryz.prog (oLoad 3 x46) w37 fun x47 w38 =>
 pN Tryz.prog (oBin .eql 3 (.tmp 47) (.const (.int .i64 3)) x47 (.int .i64 3)) w38 fun x48 w39 =>
 pIf x48
 (pN Tryz.prog (oFld 48 x3 3) w39 fun x49 w40 =>
 pN Tryz.prog (oLoad 3 x49) w40 fun x50 w41 =>
 pN Tryz.prog (oFld 69 x2 1) w41 fun x51 w42 =>
 pN Tryz.prog (oIdx 67 x51 x50) w42 fun x52 w43 =>
 pN Tryz.prog (oLoad 3 x52) w43 fun x53 w44 =>
 pN Tryz.prog (oFld 69 x8 1) w44 fun x54 w45 =>
 pN Tryz.prog (oIdx 67 x54 (.int .i64 0)) w45 fun x55 w46 =>
 pN Tryz.prog (oStore 3 x55 x53) w46 fun _ w47 =>
 ∃ (L14 : Value → Value → World → Prop) (m14 : Value → Value → World → Nat),
 L14 (.int .i64 0) (.int .i64 0) w47 ∧
 ∀ (_k14 : Env) (k9l14 : Value) (i10l14 : Value) (w48 : World), L14 k9l14 i10l14 w48 →
 pN Tryz.prog (oBin .lss 3 (.tmp 56) (.const (.int .i64 4)) i10l14 (.int .i64 4)) w48 fun x57 w49 =>
 pIf x57
 (∃ I15 : Value → World → Prop,
 (pN Tryz.prog (oFld 48 x3 3) w49 fun x61 w50 =>
 pN Tryz.prog (oLoad 3 x61) w50 fun x62 w51 =>
 pN Tryz.prog (oBin .neq 3 (.tmp 60) (.tmp 62) i10l14 x62) w51 fun x63 w52 =>
 pIf x63
 (pN Tryz.prog (oBin .add 3 (.tmp 64) (.const (.int .i64 1)) k9l14 (.int .i64 1)) w52 fun x65 w53 =>
 pN Tryz.prog (oFld 69 x2 1) w53 fun x68 w54 =>
 pN Tryz.prog (oIdx 67 x68 i10l14) w54 fun x69 w55 =>
 pN Tryz.prog (oLoad 3 x69) w55 fun x70 w56 =>
 pN Tryz.prog (oFld 69 x8 1) w56 fun x71 w57 =>
 pN Tryz.prog (oIdx 67 x71 x65) w57 fun x72 w58 =>
 pN Tryz.prog (oStore 3 x72 x70) w58 fun _ w59 =>
 I15 x65 w59)
 (I15 k9l14 w52)) ∧
 ∀ (_j15 : Env) (k9c15 : Value) (w60 : World), I15 k9c15 w60 →
 pN Tryz.prog (oBin .add 3 (.tmp 58) (.const (.int .i64 1)) i10l14 (.int .i64 1)) w60 fun x59 w61 =>
 (L14 k9c15 x59 w61 ∧ m14 k9c15 x59 w61 < m14 k9l14 i10l14 w48))
 (I19 w49))
 (I19 w39)) ∧
 ∀ (_j19 : Env) (w62 : World), I19 w62 →
 pN Tryz.prog (oLoad 69 x8) w62 fun x73 w63 =>
 pN Tryz.prog (oStore 69 x4 x73) w63 fun _ w64 =>
 pL Tryz.prog (oRes 69 x4) w64 fun r4 =>
 Q (.tuple #[r4, (.int .i64 0)]) w64)))) ∧ (pN Tryz.prog (oAlloc 69) w15 fun x8 w65 =>
 ((Sem.run Tryz.prog (oLoad 67 x27) w65 = .ok (.value x28) w65) ∧ True) ∧ (pN Tryz.prog (oBuild 69 [(0, x26), (1, x28)]) w65 fun x29 w66 =>
 (True) ∧ (pN Tryz.prog (oStore 69 x8 x29) w66 fun _ w67 =>
 (True) ∧ (∃ I10 : World → Prop,
 (pN Tryz.prog (oFld 48 x3 0) w67 fun x30 w68 =>
 pN Tryz.prog (oLoad 3 x30) w68 fun x31 w69 =>
 pN Tryz.prog (oBin .eql 3 (.tmp 31) (.const (.int .i64 2)) x31 (.int .i64 2)) w69 fun x32 w70 =>
 pIf x32
 (pN Tryz.prog (oFld 48 x3 3) w70 fun x33 w71 =>
 pN Tryz.prog (oLoad 3 x33) w71 fun x34 w72 =>
 pN Tryz.prog (oFld 69 x2 1) w72 fun x35 w73 =>
 pN Tryz.prog (oIdx 67 x35 (.int .i64 0)) w73 fun x36 w74 =>
 pN Tryz.prog (oLoad 3 x36) w74 fun x37 w75 =>
 pN Tryz.prog (oFld 69 x2 1) w75 fun x38 w76 =>
 pN Tryz.prog (oIdx 67 x38 (.int .i64 1)) w76 fun x39 w77 =>
 pN Tryz.prog (oLoad 3 x39) w77 fun x40 w78 =>
 pN Tryz.prog (oFld 69 x2 1) w78 fun x41 w79 =>
 pN Tryz.prog (oIdx 67 x41 (.int .i64 2)) w79 fun x42 w80 =>
 pN Tryz.prog (oLoad 3 x42) w80 fun x43 w81 =>
 pN Tryz.prog (oBuild 67 [(0, x34), (1, x37), (2, x40), (3, x43)]) w81 fun x44 w82 =>
 pN Tryz.prog (oFld 69 x8 1) w82 fun x45 w83 =>
 pN Tryz.prog (oStore 67 x45 x44) w83 fun _ w84 =>
 I10 w84)
 (I10 w70)) ∧
 ∀ (_j10 : Env) (w85 : World), I10 w85 →
 ∃ I19 : World → Prop,
 (pN Tryz.prog (oFld 48 x3 0) w85 fun x46 w86 =>
 pN Tryz.prog (oLoad 3 x46) w86 fun x47 w87 =>
 pN Tryz.prog (oBin .eql 3 (.tmp 47) (.const (.int .i64 3)) x47 (.int .i64 3)) w87 fun x48 w88 =>
 pIf x48
 (pN Tryz.prog (oFld 48 x3 3) w88 fun x49 w89 =>
 pN Tryz.prog (oLoad 3 x49) w89 fun x50 w90 =>
 pN Tryz.prog (oFld 69 x2 1) w90 fun x51 w91 =>
 pN Tryz.prog (oIdx 67 x51 x50) w91 fun x52 w92 =>
 pN Tryz.prog (oLoad 3 x52) w92 fun x53 w93 =>
 pN Tryz.prog (oFld 69 x8 1) w93 fun x54 w94 =>
 pN Tryz.prog (oIdx 67 x54 (.int .i64 0)) w94 fun x55 w95 =>
 pN Tryz.prog (oStore 3 x55 x53) w95 fun _ w96 =>
 ∃ (L14 : Value → Value → World → Prop) (m14 : Value → Value → World → Nat),
 L14 (.int .i64 0) (.int .i64 0) w96 ∧
 ∀ (_k14 : Env) (k9l14 : Value) (i10l14 : Value) (w97 : World), L14 k9l14 i10l14 w97 →
 pN Tryz.prog (oBin .lss 3 (.tmp 56) (.const (.int .i64 4)) i10l14 (.int .i64 4)) w97 fun x57 w98 =>
 pIf x57
 (∃ I15 : Value → World → Prop,
 (pN Tryz.prog (oFld 48 x3 3) w98 fun x61 w99 =>
 pN Tryz.prog (oLoad 3 x61) w99 fun x62 w100 =>
 pN Tryz.prog (oBin .neq 3 (.tmp 60) (.tmp 62) i10l14 x62) w100 fun x63 w101 =>
 pIf x63
 (pN Tryz.prog (oBin .add 3 (.tmp 64) (.const (.int .i64 1)) k9l14 (.int .i64 1)) w101 fun x65 w102 =>
 pN Tryz.prog (oFld 69 x2 1) w102 fun x68 w103 =>
 pN Tryz.prog (oIdx 67 x68 i10l14) w103 fun x69 w104 =>
 pN Tryz.prog (oLoad 3 x69) w104 fun x70 w105 =>
 pN Tryz.prog (oFld 69 x8 1) w105 fun x71 w106 =>
 pN Tryz.prog (oIdx 67 x71 x65) w106 fun x72 w107 =>
 pN Tryz.prog (oStore 3 x72 x70) w107 fun _ w108 =>
 I15 x65 w108)
 (I15 k9l14 w101)) ∧
 ∀ (_j15 : Env) (k9c15 : Value) (w109 : World), I15 k9c15 w109 →
 pN Tryz.prog (oBin .add 3 (.tmp 58) (.const (.int .i64 1)) i10l14 (.int .i64 1)) w109 fun x59 w110 =>
 (L14 k9c15 x59 w110 ∧ m14 k9c15 x59 w110 < m14 k9l14 i10l14 w97))
 (I19 w98))
 (I19 w88)) ∧
 ∀ (_j19 : Env) (w111 : World), I19 w111 →
 pN Tryz.prog (oLoad 69 x8) w111 fun x73 w112 =>
 pN Tryz.prog (oStore 69 x4 x73) w112 fun _ w113 =>
 pL Tryz.prog (oRes 69 x4) w113 fun r4 =>
 Q (.tuple #[r4, (.int .i64 0)]) w113)))))) ∧ (pN Tryz.prog (oAlloc 69) w14 fun x8 w114 =>
 ((Sem.run Tryz.prog (oLoad 67 x27) w114 = .ok (.value x28) w114) ∧ (Sem.run Tryz.prog (oLoad 3 x24) w114 = .ok (.value x25) w114) ∧ (Sem.run Tryz.prog (oLoad 3 x22) w114 = .ok (.value x23) w114) ∧ True) ∧ (pN Tryz.prog (oCall 161 [x23, x25]) w114 fun x26 w115 =>
 ((Sem.run Tryz.prog (oLoad 67 x27) w115 = .ok (.value x28) w115) ∧ True) ∧ (pN Tryz.prog (oBuild 69 [(0, x26), (1, x28)]) w115 fun x29 w116 =>
 (True) ∧ (pN Tryz.prog (oStore 69 x8 x29) w116 fun _ w117 =>
 (True) ∧ (∃ I10 : World → Prop,
 (pN Tryz.prog (oFld 48 x3 0) w117 fun x30 w118 =>
 pN Tryz.prog (oLoad 3 x30) w118 fun x31 w119 =>
 pN Tryz.prog (oBin .eql 3 (.tmp 31) (.const (.int .i64 2)) x31 (.int .i64 2)) w119 fun x32 w120 =>
 pIf x32
 (pN Tryz.prog (oFld 48 x3 3) w120 fun x33 w121 =>
 pN Tryz.prog (oLoad 3 x33) w121 fun x34 w122 =>
 pN Tryz.prog (oFld 69 x2 1) w122 fun x35 w123 =>
 pN Tryz.prog (oIdx 67 x35 (.int .i64 0)) w123 fun x36 w124 =>
 pN Tryz.prog (oLoad 3 x36) w124 fun x37 w125 =>
 pN Tryz.prog (oFld 69 x2 1) w125 fun x38 w126 =>
 pN Tryz.prog (oIdx 67 x38 (.int .i64 1)) w126 fun x39 w127 =>
 pN Tryz.prog (oLoad 3 x39) w127 fun x40 w128 =>
 pN Tryz.prog (oFld 69 x2 1) w128 fun x41 w129 =>
 pN Tryz.prog (oIdx 67 x41 (.int .i64 2)) w129 fun x42 w130 =>
 pN Tryz.prog (oLoad 3 x42) w130 fun x43 w131 =>
 pN Tryz.prog (oBuild 67 [(0, x34), (1, x37), (2, x40), (3, x43)]) w131 fun x44 w132 =>
 pN Tryz.prog (oFld 69 x8 1) w132 fun x45 w133 =>
 pN Tryz.prog (oStore 67 x45 x44) w133 fun _ w134 =>
 I10 w134)
 (I10 w120)) ∧
 ∀ (_j10 : Env) (w135 : World), I10 w135 →
 ∃ I19 : World → Prop,
 (pN Tryz.prog (oFld 48 x3 0) w135 fun x46 w136 =>
 pN Tryz.prog (oLoad 3 x46) w136 fun x47 w137 =>
 pN Tryz.prog (oBin .eql 3 (.tmp 47) (.const (.int .i64 3)) x47 (.int .i64 3)) w137 fun x48 w138 =>
 pIf x48
 (pN Tryz.prog (oFld 48 x3 3) w138 fun x49 w139 =>
 pN Tryz.prog (oLoad 3 x49) w139 fun x50 w140 =>
 pN Tryz.prog (oFld 69 x2 1) w140 fun x51 w141 =>
 pN Tryz.prog (oIdx 67 x51 x50) w141 fun x52 w142 =>
 pN Tryz.prog (oLoad 3 x52) w142 fun x53 w143 =>
 pN Tryz.prog (oFld 69 x8 1) w143 fun x54 w144 =>
 pN Tryz.prog (oIdx 67 x54 (.int .i64 0)) w144 fun x55 w145 =>
 pN Tryz.prog (oStore 3 x55 x53) w145 fun _ w146 =>
 ∃ (L14 : Value → Value → World → Prop) (m14 : Value → Value → World → Nat),
 L14 (.int .i64 0) (.int .i64 0) w146 ∧
 ∀ (_k14 : Env) (k9l14 : Value) (i10l14 : Value) (w147 : World), L14 k9l14 i10l14 w147 →
 pN Tryz.prog (oBin .lss 3 (.tmp 56) (.const (.int .i64 4)) i10l14 (.int .i64 4)) w147 fun x57 w148 =>
 pIf x57
 (∃ I15 : Value → World → Prop,
 (pN Tryz.prog (oFld 48 x3 3) w148 fun x61 w149 =>
 pN Tryz.prog (oLoad 3 x61) w149 fun x62 w150 =>
 pN Tryz.prog (oBin .neq 3 (.tmp 60) (.tmp 62) i10l14 x62) w150 fun x63 w151 =>
 pIf x63
 (pN Tryz.prog (oBin .add 3 (.tmp 64) (.const (.int .i64 1)) k9l14 (.int .i64 1)) w151 fun x65 w152 =>
 pN Tryz.prog (oFld 69 x2 1) w152 fun x68 w153 =>
 pN Tryz.prog (oIdx 67 x68 i10l14) w153 fun x69 w154 =>
 pN Tryz.prog (oLoad 3 x69) w154 fun x70 w155 =>
 pN Tryz.prog (oFld 69 x8 1) w155 fun x71 w156 =>
 pN Tryz.prog (oIdx 67 x71 x65) w156 fun x72 w157 =>
 pN Tryz.prog (oStore 3 x72 x70) w157 fun _ w158 =>
 I15 x65 w158)
 (I15 k9l14 w151)) ∧
 ∀ (_j15 : Env) (k9c15 : Value) (w159 : World), I15 k9c15 w159 →
 pN Tryz.prog (oBin .add 3 (.tmp 58) (.const (.int .i64 1)) i10l14 (.int .i64 1)) w159 fun x59 w160 =>
 (L14 k9c15 x59 w160 ∧ m14 k9c15 x59 w160 < m14 k9l14 i10l14 w147))
 (I19 w148))
 (I19 w138)) ∧
 ∀ (_j19 : Env) (w161 : World), I19 w161 →
 pN Tryz.prog (oLoad 69 x8) w161 fun x73 w162 =>
 pN Tryz.prog (oStore 69 x4 x73) w162 fun _ w163 =>
 pL Tryz.prog (oRes 69 x4) w163 fun r4 =>
 Q (.tuple #[r4, (.int .i64 0)]) w163)))))))
theorem pithref12_Next.calls [Pan] {x0 x1 : Value} {w : World} {Q : Value → World → Prop} (h : pithref12_Next.F x0 x1 w Q) : Calls Tryz.prog 119 #[x0, x1] w (retP Q) := calls_lift mixed pithref12_Next.H [x0, x1] Tryz.func119 (by kernel_rfl) (by kernel_rfl) h

def pithref12_Range.H : Hints := { cut := fun  | _ => none, loop := fun | 5 => ([5, 6], 8380512) | _ => ([], 0), order := fun  | _ => [] }
def pithref12_Range.F [Pan] (x0 : Value) (w : World) (Q : Value → World → Prop) : Prop :=
 pN Tryz.prog (oBin .lss 3 (.tmp 7) (.const (.int .i64 0)) x0 (.int .i64 0)) w fun x8 w1 =>
 pGd (gB x8 false) (pN Tryz.prog (oMv x0) w1) w1 fun x10 w2 =>
 pGd (gB x8 false) (pN Tryz.prog (oBin .gtr 3 (.tmp 10) (.const (.int .i64 63)) x10 (.int .i64 63)) w2) w2 fun x11 w3 =>
 pN Tryz.prog (oPick x8 (.bool true) x11) w3 fun x12 w4 =>
 pIf x12
 (Q (.tuple #[(.int .i64 0), (.int .i64 0), (.int .i64 7)]) w4)
 (∃ (L5 : Value → Value → World → Prop) (m5 : Value → Value → World → Nat),
 L5 (.int .i64 1) (.int .i64 0) w4 ∧
 ∀ (_k5 : Env) (least5l5 : Value) (i6l5 : Value) (w5 : World), L5 least5l5 i6l5 w5 →
 pN Tryz.prog (oBin .lss 3 (.tmp 13) (.tmp 14) i6l5 x0) w5 fun x15 w6 =>
 pIf x15
 (pN Tryz.prog (oCall 177 [i6l5]) w6 fun x20 w7 =>
 pN Tryz.prog (oBin .shl 3 (.const (.int .i64 1)) (.tmp 20) (.int .i64 1) x20) w7 fun x21 w8 =>
 pN Tryz.prog (oBin .add 3 (.tmp 18) (.tmp 21) least5l5 x21) w8 fun x22 w9 =>
 pN Tryz.prog (oBin .add 3 (.tmp 16) (.const (.int .i64 1)) i6l5 (.int .i64 1)) w9 fun x17 w10 =>
 (L5 x22 x17 w10 ∧ m5 x22 x17 w10 < m5 least5l5 i6l5 w5))
 (pN Tryz.prog (oCall 177 [x0]) w6 fun x25 w11 =>
 Q (.tuple #[least5l5, x25, (.int .i64 0)]) w11))
theorem pithref12_Range.calls [Pan] {x0 : Value} {w : World} {Q : Value → World → Prop} (h : pithref12_Range.F x0 w Q) : Calls Tryz.prog 155 #[x0] w (retP Q) := calls_lift mixed pithref12_Range.H [x0] Tryz.func155 (by kernel_rfl) (by kernel_rfl) h

def pithref12_Right.H : Hints := { cut := fun  | _ => none, loop := fun | 2 => ([3], 1048572) | _ => ([], 0), order := fun  | _ => [] }
def pithref12_Right.F [Pan] (x0 : Value) (w : World) (Q : Value → World → Prop) : Prop :=
 pN Tryz.prog (oBox 69 x0) w fun x1 w1 =>
 ∃ (L2 : Value → World → Prop) (m2 : Value → World → Nat),
 L2 (.int .i64 0) w1 ∧
 ∀ (_k2 : Env) (i3l2 : Value) (w2 : World), L2 i3l2 w2 →
 pN Tryz.prog (oBin .lss 3 (.tmp 4) (.const (.int .i64 4)) i3l2 (.int .i64 4)) w2 fun x5 w3 =>
 pIf x5
 (pN Tryz.prog (oFld 69 x1 1) w3 fun x9 w4 =>
 pN Tryz.prog (oIdx 67 x9 i3l2) w4 fun x10 w5 =>
 pN Tryz.prog (oLoad 3 x10) w5 fun x11 w6 =>
 pN Tryz.prog (oBin .lss 3 (.tmp 11) (.const (.int .i64 1)) x11 (.int .i64 1)) w6 fun x12 w7 =>
 pGd (gB x12 false) (pN Tryz.prog (oMv i3l2) w7) w7 fun x14 w8 =>
 pGd (gB x12 false) (pN Tryz.prog (oFld 69 x1 1) w8) w8 fun x15 w9 =>
 pGd (gB x12 false) (pN Tryz.prog (oIdx 67 x15 x14) w9) w9 fun x16 w10 =>
 pGd (gB x12 false) (pN Tryz.prog (oLoad 3 x16) w10) w10 fun x17 w11 =>
 pGd (gB x12 false) (pN Tryz.prog (oBin .gtr 3 (.tmp 17) (.const (.int .i64 4294967295)) x17 (.int .i64 4294967295)) w11) w11 fun x18 w12 =>
 pN Tryz.prog (oPick x12 (.bool true) x18) w12 fun x19 w13 =>
 pIf x19
 (Q (.bool false) w13)
 (pN Tryz.prog (oBin .add 3 (.tmp 6) (.const (.int .i64 1)) i3l2 (.int .i64 1)) w13 fun x7 w14 =>
 (L2 x7 w14 ∧ m2 x7 w14 < m2 i3l2 w2)))
 (pN Tryz.prog (oFld 69 x1 0) w3 fun x20 w15 =>
 pN Tryz.prog (oLoad 3 x20) w15 fun x21 w16 =>
 pN Tryz.prog (oBin .geq 3 (.tmp 21) (.const (.int .i64 0)) x21 (.int .i64 0)) w16 fun x22 w17 =>
 pGd (gB x22 true) (pN Tryz.prog (oFld 69 x1 0) w17) w17 fun x24 w18 =>
 pGd (gB x22 true) (pN Tryz.prog (oLoad 3 x24) w18) w18 fun x25 w19 =>
 pGd (gB x22 true) (pN Tryz.prog (oBin .leq 3 (.tmp 25) (.const (.int .i64 11)) x25 (.int .i64 11)) w19) w19 fun x26 w20 =>
 pN Tryz.prog (oPick x22 x26 (.bool false)) w20 fun x27 w21 =>
 Q x27 w21)
theorem pithref12_Right.calls [Pan] {x0 : Value} {w : World} {Q : Value → World → Prop} (h : pithref12_Right.F x0 w Q) : Calls Tryz.prog 159 #[x0] w (retP Q) := calls_lift mixed pithref12_Right.H [x0] Tryz.func159 (by kernel_rfl) (by kernel_rfl) h

def pithref12_Formed.H : Hints := { cut := fun | 5 => some ([14], 114688) | 14 => some ([], 35184372084740) | _ => none, loop := fun  | _ => ([], 0), order := fun  | _ => [] }
def pithref12_Formed.F [Pan] (x0 : Value) (w : World) (Q : Value → World → Prop) : Prop :=
 pN Tryz.prog (oBox 48 x0) w fun x1 w1 =>
 pN Tryz.prog (oFld 48 x1 2) w1 fun x4 w2 =>
 pN Tryz.prog (oLoad 3 x4) w2 fun x5 w3 =>
 pN Tryz.prog (oBin .geq 3 (.tmp 5) (.const (.int .i64 2)) x5 (.int .i64 2)) w3 fun x6 w4 =>
 pGd (gB x6 true) (pN Tryz.prog (oFld 48 x1 2) w4) w4 fun x8 w5 =>
 pGd (gB x6 true) (pN Tryz.prog (oLoad 3 x8) w5) w5 fun x9 w6 =>
 pGd (gB x6 true) (pN Tryz.prog (oBin .leq 3 (.tmp 9) (.const (.int .i64 273)) x9 (.int .i64 273)) w6) w6 fun x10 w7 =>
 pN Tryz.prog (oPick x6 x10 (.bool false)) w7 fun x11 w8 =>
 ∃ I14 : World → Prop,
 (pN Tryz.prog (oFld 48 x1 0) w8 fun x12 w9 =>
 pN Tryz.prog (oLoad 3 x12) w9 fun x13 w10 =>
 ∃ I5 : Value → World → Prop,
 (pN Tryz.prog (oBin .eql 3 (.tmp 13) (.const (.int .i64 1)) x13 (.int .i64 1)) w10 fun x15 w11 =>
 pIf x15
 (I5 x15 w11)
 (pN Tryz.prog (oBin .eql 3 (.tmp 13) (.const (.int .i64 4)) x13 (.int .i64 4)) w11 fun x16 w12 =>
 I5 x16 w12)) ∧
 ∀ (_j5 : Env) (v14c5 : Value) (w13 : World), I5 v14c5 w13 →
 pIf v14c5
 (Q (.int .i64 0) w13)
 (pN Tryz.prog (oBin .eql 3 (.tmp 13) (.const (.int .i64 2)) x13 (.int .i64 2)) w13 fun x18 w14 =>
 pIf x18
 (pN Tryz.prog (oUn .not x11) w14 fun x20 w15 =>
 pGd (gB x20 false) (pN Tryz.prog (oFld 48 x1 3) w15) w15 fun x22 w16 =>
 pGd (gB x20 false) (pN Tryz.prog (oLoad 3 x22) w16) w16 fun x23 w17 =>
 pGd (gB x20 false) (pN Tryz.prog (oBin .lss 3 (.tmp 23) (.const (.int .i64 1)) x23 (.int .i64 1)) w17) w17 fun x24 w18 =>
 pN Tryz.prog (oPick x20 (.bool true) x24) w18 fun x25 w19 =>
 pGd (gB x25 false) (pN Tryz.prog (oFld 48 x1 3) w19) w19 fun x27 w20 =>
 pGd (gB x25 false) (pN Tryz.prog (oLoad 3 x27) w20) w20 fun x28 w21 =>
 pGd (gB x25 false) (pN Tryz.prog (oBin .gtr 3 (.tmp 28) (.const (.int .i64 4294967295)) x28 (.int .i64 4294967295)) w21) w21 fun x29 w22 =>
 pN Tryz.prog (oPick x25 (.bool true) x29) w22 fun x30 w23 =>
 pIf x30
 (Q (.int .i64 7) w23)
 (Q (.int .i64 0) w23))
 (pN Tryz.prog (oBin .eql 3 (.tmp 13) (.const (.int .i64 3)) x13 (.int .i64 3)) w14 fun x32 w24 =>
 pIf x32
 (pN Tryz.prog (oUn .not x11) w24 fun x34 w25 =>
 pGd (gB x34 false) (pN Tryz.prog (oFld 48 x1 3) w25) w25 fun x36 w26 =>
 pGd (gB x34 false) (pN Tryz.prog (oLoad 3 x36) w26) w26 fun x37 w27 =>
 pGd (gB x34 false) (pN Tryz.prog (oBin .lss 3 (.tmp 37) (.const (.int .i64 0)) x37 (.int .i64 0)) w27) w27 fun x38 w28 =>
 pN Tryz.prog (oPick x34 (.bool true) x38) w28 fun x39 w29 =>
 pGd (gB x39 false) (pN Tryz.prog (oFld 48 x1 3) w29) w29 fun x41 w30 =>
 pGd (gB x39 false) (pN Tryz.prog (oLoad 3 x41) w30) w30 fun x42 w31 =>
 pGd (gB x39 false) (pN Tryz.prog (oBin .gtr 3 (.tmp 42) (.const (.int .i64 3)) x42 (.int .i64 3)) w31) w31 fun x43 w32 =>
 pN Tryz.prog (oPick x39 (.bool true) x43) w32 fun x44 w33 =>
 pIf x44
 (Q (.int .i64 7) w33)
 (Q (.int .i64 0) w33))
 (I14 w24)))) ∧
 ∀ (_j14 : Env) (w34 : World), I14 w34 →
 Q (.int .i64 6) w34
theorem pithref12_Formed.calls [Pan] {x0 : Value} {w : World} {Q : Value → World → Prop} (h : pithref12_Formed.F x0 w Q) : Calls Tryz.prog 160 #[x0] w (retP Q) := calls_lift mixed pithref12_Formed.H [x0] Tryz.func160 (by kernel_rfl) (by kernel_rfl) h

def pithref12_moved.F [Pan] (x0 x1 : Value) (w : World) (Q : Value → World → Prop) : Prop :=
 pN Tryz.prog (oBin .eql 3 (.tmp 6) (.const (.int .i64 1)) x1 (.int .i64 1)) w fun x7 w1 =>
 pIf x7
 (pN Tryz.prog (oBin .lss 3 (.tmp 9) (.const (.int .i64 4)) x0 (.int .i64 4)) w1 fun x10 w2 =>
 pIf x10
 (Q (.int .i64 0) w2)
 (pN Tryz.prog (oBin .lss 3 (.tmp 12) (.const (.int .i64 10)) x0 (.int .i64 10)) w2 fun x13 w3 =>
 pIf x13
 (pN Tryz.prog (oBin .sub 3 (.tmp 14) (.const (.int .i64 3)) x0 (.int .i64 3)) w3 fun x15 w4 =>
 Q x15 w4)
 (pN Tryz.prog (oBin .sub 3 (.tmp 16) (.const (.int .i64 6)) x0 (.int .i64 6)) w3 fun x17 w5 =>
 Q x17 w5)))
 (pN Tryz.prog (oBin .geq 3 (.tmp 18) (.const (.int .i64 7)) x0 (.int .i64 7)) w1 fun x19 w6 =>
 pN Tryz.prog (oBin .eql 3 (.tmp 21) (.const (.int .i64 2)) x1 (.int .i64 2)) w6 fun x22 w7 =>
 pGd (gB x22 true) (pN Tryz.prog (oMv x19) w7) w7 fun x24 w8 =>
 pN Tryz.prog (oPick x22 x24 (.bool false)) w8 fun x25 w9 =>
 pIf x25
 (Q (.int .i64 10) w9)
 (pN Tryz.prog (oBin .eql 3 (.tmp 27) (.const (.int .i64 2)) x1 (.int .i64 2)) w9 fun x28 w10 =>
 pIf x28
 (Q (.int .i64 7) w10)
 (pIf x19
 (Q (.int .i64 11) w10)
 (pN Tryz.prog (oBin .eql 3 (.tmp 32) (.const (.int .i64 3)) x1 (.int .i64 3)) w10 fun x33 w11 =>
 pIf x33
 (Q (.int .i64 8) w11)
 (Q (.int .i64 9) w11)))))
theorem pithref12_moved.calls [Pan] {x0 x1 : Value} {w : World} {Q : Value → World → Prop} (h : pithref12_moved.F x0 x1 w Q) : Calls Tryz.prog 161 #[x0, x1] w (retP Q) := calls_lift mixed .z [x0, x1] Tryz.func161 (by kernel_rfl) (by kernel_rfl) h

def pithref12_bits.F [Pan] (x0 : Value) (w : World) (Q : Value → World → Prop) : Prop :=
 pN Tryz.prog (oBin .lss 3 (.tmp 3) (.const (.int .i64 4)) x0 (.int .i64 4)) w fun x4 w1 =>
 pIf x4
 (Q (.int .i64 0) w1)
 (pN Tryz.prog (oBin .quo 3 (.tmp 5) (.const (.int .i64 2)) x0 (.int .i64 2)) w1 fun x6 w2 =>
 pN Tryz.prog (oBin .sub 3 (.tmp 6) (.const (.int .i64 1)) x6 (.int .i64 1)) w2 fun x7 w3 =>
 Q x7 w3)
theorem pithref12_bits.calls [Pan] {x0 : Value} {w : World} {Q : Value → World → Prop} (h : pithref12_bits.F x0 w Q) : Calls Tryz.prog 177 #[x0] w (retP Q) := calls_lift mixed .z [x0] Tryz.func177 (by kernel_rfl) (by kernel_rfl) h

end Go.Proofs.YtbgnnjfpiblkmaaGreatDoor
