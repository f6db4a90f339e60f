/-
  Texts of one proof, one behind the other: Ref12, RPure, TPure, ZOps, ZSym, LfRcdec, DecP, Dec, Wide, DecD, DecQ0, DecTrip, Fol, TGet.
-/
import Derived.Test.YtbgnnjfpiblkmaaGreatDoorRows
import Derived.Deep.DeepAppendWide
import Derived.Test.YtbgnnjfpiblkmaaGreatDoorMg4
set_option linter.unusedSimpArgs false
set_option linter.unnecessarySimpa false
set_option linter.unusedSectionVars false
set_option linter.unusedVariables false

namespace Go.Proofs.YtbgnnjfpiblkmaaGreatDoor
open Go
attribute [local irreducible] oMv oV oU oCall oCallV oBi oBin oUn oLoad oStore oNil oFld oField oIdx oIndex oPick oAlloc oBox oBuild oBs oConv oMk oSl oExt oFn oIface oMap oLook oMapUp oRange oNext oEntry oInv oAssert oPanic oRes pN pA pL pDr pIf gA pGd

namespace Z
theorem least_step (i : Nat) (h : i < 63) : least (i + 1 : Nat) = least i + 2 ^ bitsN i := by
  have h : ∀ j : Fin 63, least (j.val + 1 : Nat) = least j.val + 2 ^ bitsN j.val := by decide +kernel
  exact h ⟨i, by assumption⟩
def mid (s : St) : Nat → Nat → St
  | 0, 0 => ⟨moved s.num 3, s.r0, s.r1, s.r2, s.r3⟩
  | 0, 1 => ⟨moved s.num 3, s.r0, s.r1, s.r2, s.r3⟩
  | 0, 2 => ⟨moved s.num 3, s.r0, s.r1, s.r2, s.r3⟩
  | 0, 3 => ⟨moved s.num 3, s.r0, s.r1, s.r2, s.r3⟩
  | 0, 4 => ⟨moved s.num 3, s.r0, s.r1, s.r2, s.r3⟩
  | 1, 0 => ⟨moved s.num 3, s.r1, s.r1, s.r2, s.r3⟩
  | 1, 1 => ⟨moved s.num 3, s.r1, s.r0, s.r2, s.r3⟩
  | 1, 2 => ⟨moved s.num 3, s.r1, s.r0, s.r2, s.r3⟩
  | 1, 3 => ⟨moved s.num 3, s.r1, s.r0, s.r2, s.r3⟩
  | 1, 4 => ⟨moved s.num 3, s.r1, s.r0, s.r2, s.r3⟩
  | 2, 0 => ⟨moved s.num 3, s.r2, s.r1, s.r2, s.r3⟩
  | 2, 1 => ⟨moved s.num 3, s.r2, s.r0, s.r2, s.r3⟩
  | 2, 2 => ⟨moved s.num 3, s.r2, s.r0, s.r1, s.r3⟩
  | 2, 3 => ⟨moved s.num 3, s.r2, s.r0, s.r1, s.r3⟩
  | 2, 4 => ⟨moved s.num 3, s.r2, s.r0, s.r1, s.r3⟩
  | 3, 0 => ⟨moved s.num 3, s.r3, s.r1, s.r2, s.r3⟩
  | 3, 1 => ⟨moved s.num 3, s.r3, s.r0, s.r2, s.r3⟩
  | 3, 2 => ⟨moved s.num 3, s.r3, s.r0, s.r1, s.r3⟩
  | 3, 3 => ⟨moved s.num 3, s.r3, s.r0, s.r1, s.r2⟩
  | 3, 4 => ⟨moved s.num 3, s.r3, s.r0, s.r1, s.r2⟩
  | _, _ => s
def midK : Nat → Nat → Int
  | 0, 0 => 0
  | 0, 1 => 0
  | 0, 2 => 1
  | 0, 3 => 2
  | 0, 4 => 3
  | 1, 0 => 0
  | 1, 1 => 1
  | 1, 2 => 1
  | 1, 3 => 2
  | 1, 4 => 3
  | 2, 0 => 0
  | 2, 1 => 1
  | 2, 2 => 2
  | 2, 3 => 2
  | 2, 4 => 3
  | 3, 0 => 0
  | 3, 1 => 1
  | 3, 2 => 2
  | 3, 3 => 3
  | 3, 4 => 3
  | _, _ => 0
end Z

section
variable {E w W : World} {M N : List HA} {Q : Value → World → Prop} {s : Z.St} {y : Z.Y}

theorem R12moved_ok (n k : Int) (h : 0 ≤ n ∧ n < 12) (hQ : Q (.int .i64 (Z.moved n k)) w) : Calls Tryz.prog 161 #[.int .i64 n, .int .i64 k] w (retP Q) := by
  refine pithref12_moved.calls ?_
  unfold pithref12_moved.F
  unfold Z.moved at hQ
  by_cases h1 : k = 1
  · rw [if_pos h1] at hQ
    by_cases h2 : n < 4
    · rw [if_pos h2] at hQ
      repeat' (first | (refine pN_lss_s ?_ ?_ <;> intro hc <;> try (exfalso; omega)) | (refine pN_eql_s ?_ ?_ <;> intro hc <;> try (exfalso; first | omega | exact hc rfl | exact hc (by assumption) | exact absurd hc (by assumption))) | refine pIf_t ?_ | fail)
      exact hQ
    · rw [if_neg h2] at hQ
      by_cases h3 : n < 10
      · rw [if_pos h3] at hQ
        repeat' (first | (refine pN_lss_s ?_ ?_ <;> intro hc <;> try (exfalso; omega)) | (refine pN_eql_s ?_ ?_ <;> intro hc <;> try (exfalso; first | omega | exact hc rfl | exact hc (by assumption) | exact absurd hc (by assumption))) | refine pIf_t ?_ | refine pIf_f ?_ | refine pN_v (hk := ?_) | fail)
        exact hQ
      · rw [if_neg h3] at hQ
        repeat' (first | (refine pN_lss_s ?_ ?_ <;> intro hc <;> try (exfalso; omega)) | (refine pN_eql_s ?_ ?_ <;> intro hc <;> try (exfalso; first | omega | exact hc rfl | exact hc (by assumption) | exact absurd hc (by assumption))) | refine pIf_t ?_ | refine pIf_f ?_ | refine pN_v (hk := ?_) | fail)
        exact hQ
  · rw [if_neg h1] at hQ
    by_cases h2 : k = 2
    · rw [if_pos h2] at hQ
      by_cases h3 : 7 ≤ n
      · rw [if_pos h3] at hQ
        repeat' (first | (refine pN_geq_s ?_ ?_ <;> intro hc <;> try (exfalso; omega)) | (refine pN_eql_s ?_ ?_ <;> intro hc <;> try (exfalso; first | omega | exact hc rfl | exact hc (by assumption) | exact absurd hc (by assumption))) | refine pIf_t ?_ | refine pIf_f ?_ | refine pGd_go (by rfl) ?_ | refine pN_v (hk := ?_) | fail)
        exact hQ
      · rw [if_neg h3] at hQ
        repeat' (first | (refine pN_geq_s ?_ ?_ <;> intro hc <;> try (exfalso; omega)) | (refine pN_eql_s ?_ ?_ <;> intro hc <;> try (exfalso; first | omega | exact hc rfl | exact hc (by assumption) | exact absurd hc (by assumption))) | refine pIf_t ?_ | refine pIf_f ?_ | refine pGd_go (by rfl) ?_ | refine pN_v (hk := ?_) | fail)
        exact hQ
    · rw [if_neg h2] at hQ
      by_cases h3 : 7 ≤ n
      · rw [if_pos h3] at hQ
        repeat' (first | (refine pN_geq_s ?_ ?_ <;> intro hc <;> try (exfalso; omega)) | (refine pN_eql_s ?_ ?_ <;> intro hc <;> try (exfalso; first | omega | exact hc rfl | exact hc (by assumption) | exact absurd hc (by assumption))) | refine pIf_t ?_ | refine pIf_f ?_ | refine pGd_no (by rfl) ?_ | refine pN_v (hk := ?_) | fail)
        exact hQ
      · rw [if_neg h3] at hQ
        by_cases h4 : k = 3
        · rw [if_pos h4] at hQ
          repeat' (first | (refine pN_geq_s ?_ ?_ <;> intro hc <;> try (exfalso; omega)) | (refine pN_eql_s ?_ ?_ <;> intro hc <;> try (exfalso; first | omega | exact hc rfl | exact hc (by assumption) | exact absurd hc (by assumption))) | refine pIf_t ?_ | refine pIf_f ?_ | refine pGd_no (by rfl) ?_ | refine pN_v (hk := ?_) | fail)
          exact hQ
        · rw [if_neg h4] at hQ
          repeat' (first | (refine pN_geq_s ?_ ?_ <;> intro hc <;> try (exfalso; omega)) | (refine pN_eql_s ?_ ?_ <;> intro hc <;> try (exfalso; first | omega | exact hc rfl | exact hc (by assumption) | exact absurd hc (by assumption))) | refine pIf_f ?_ | refine pGd_no (by rfl) ?_ | refine pN_v (hk := ?_) | fail)
          exact hQ
theorem R12bits_ok (n : Int) (h0 : 0 ≤ n) (h1 : n ≤ 63) (hQ : Q (.int .i64 (Z.bitsN n)) w) : Calls Tryz.prog 177 #[.int .i64 n] w (retP Q) := by
  refine pithref12_bits.calls ?_
  unfold pithref12_bits.F
  unfold Z.bitsN at hQ
  by_cases h : n < 4
  · rw [if_pos h] at hQ
    repeat' (first | (refine pN_lss_s ?_ ?_ <;> intro hc <;> try (exfalso; omega)) | refine pIf_t ?_ | fail)
    exact hQ
  · rw [if_neg h, Int.toNat_of_nonneg (by omega)] at hQ
    repeat' (first | (refine pN_lss_s ?_ ?_ <;> intro hc <;> try (exfalso; omega)) | refine pIf_f ?_ | refine pN_v (hk := ?_) | fail)
    exact hQ
theorem R12New_ok (hS : Sat E w M) (hQ : ∀ w, Sat E w M → Q (.agg #[.int .i64 0, .int .i64 1, .int .i64 1, .int .i64 1, .int .i64 1]) w) : Calls Tryz.prog 65 #[] w (retP Q) := by
  refine pithref12_New.calls ?_
  unfold pithref12_New.F
  repeat' (first | refine pL_ra hS (by rfl) ?_ | (refine pN_sa hS (by rfl) (by rfl) (by rfl) ?_; clear hS; intro w hS; try dsimp only at hS) | (refine pN_nz hS ?_; clear hS; intro a w hS) | refine pN_v (hk := ?_) | fail)
  exact hQ _ hS.to
theorem R12Range_in (n : Nat) (h1 : n ≤ 63) (hQ : Q (.tuple #[.int .i64 (Z.least n), .int .i64 (Z.bitsN n), .int .i64 0]) w) : Calls Tryz.prog 155 #[.int .i64 n] w (retP Q) := by
  refine pithref12_Range.calls ?_
  unfold pithref12_Range.F
  repeat' (first | ((first | refine pN_lss_s ?_ ?_ | refine pN_gtr_s ?_ ?_) <;> intro hc <;> try (exfalso; omega)) | refine pIf_f ?_ | refine pGd_go (by rfl) ?_ | refine pN_v (hk := ?_) | fail)
  refine ⟨fun a k w' => ∃ i : Nat, a = .int .i64 (Z.least i) ∧ k = .int .i64 i ∧ i ≤ n ∧ w' = w, fun _ k _ => (n - RowKit.intOf k).toNat, ⟨0, rfl, rfl, by omega, rfl⟩, ?_⟩
  rintro _ _ _ w1 ⟨i, rfl, rfl, h3, rfl⟩
  by_cases hlt : i < n
  · have e := Z.least_step i (by omega)
    have b1 : Z.bitsN i ≤ 30 := by unfold Z.bitsN; split <;> omega
    have hp : (2 : Int) ^ Z.bitsN i ≤ 2 ^ 30 := two_le' b1
    have e2 : (2 : Int) ^ 30 = 1073741824 := by decide
    have hp0 : (0 : Int) < 2 ^ Z.bitsN i := Int.pow_pos (by omega)
    have b3 : 0 ≤ Z.least i ∧ Z.least i ≤ 4294967296 := by
      have h : ∀ j : Fin 64, 0 ≤ Z.least j.val ∧ Z.least j.val ≤ 4294967296 := by decide +kernel
      exact h ⟨i, by omega⟩
    repeat' (first | (refine pc_pithref12_bits (R12bits_ok _ (by omega) (by omega) ?_)) | refine pN_shl_k _ rfl (by show _ ≤ 64; omega) ?_ | (refine pN_lss_s ?_ ?_ <;> intro hc <;> try (exfalso; omega)) | refine pIf_t ?_ | refine pN_v (hk := ?_) | fail)
    refine ⟨⟨i + 1, ?_, rfl, hlt, rfl⟩, by simp [RowKit.intOf]; omega⟩
    rw [e, Int.one_mul]
  · obtain rfl : i = n := by omega
    repeat' (first | (refine pc_pithref12_bits (R12bits_ok _ (by omega) (by omega) ?_)) | (refine pN_lss_s ?_ ?_ <;> intro hc <;> try (exfalso; omega)) | refine pIf_f ?_ | fail)
    exact hQ
theorem R12Allowed_ok (p : Z.Pr) (hb : -9223372036854775808 ≤ p.lc ∧ p.lc < 9223372036854775808) (hS : Sat E w M) (hQ : ∀ w, Sat E w M → Q (.bool (decide p.Ok)) w) : Calls Tryz.prog 100 #[.agg #[.int .i64 p.lc, .int .i64 p.lp, .int .i64 p.pb]] w (retP Q) := by
  refine pithref12_Allowed.calls ?_
  unfold pithref12_Allowed.F
  by_cases hp : p.Ok
  · rw [decide_eq_true hp] at hQ
    obtain ⟨h1, h2, h3, h4, h5⟩ := hp
    repeat' (first | ((first | refine pN_leq_s ?_ ?_ | refine pN_geq_s ?_ ?_) <;> intro hc <;> try (exfalso; omega)) | refine pGd_go (by rfl) ?_ | refine pN_l hS (by first | rfl | assumption) ?_ | (refine pN_bx hS (by rfl) ?_; clear hS; intro a w hS) | refine pN_v (hk := ?_) | fail)
    exact hQ _ hS.to
  · rw [decide_eq_false hp] at hQ
    unfold Z.Pr.Ok at hp
    repeat' (first | ((first | refine pN_leq_s ?_ ?_ | refine pN_geq_s ?_ ?_) <;> intro hc <;> try (exfalso; omega)) | refine pGd_go (by rfl) ?_ | refine pGd_no (by rfl) ?_ | refine pN_l hS (by first | rfl | assumption) ?_ | (refine pN_bx hS (by rfl) ?_; clear hS; intro a w hS) | refine pN_v (hk := ?_) | fail)
    all_goals exact hQ _ hS.to
theorem R12PropsByte_in (p : Z.Pr) (hp : p.Ok) (hS : Sat E w M) (hQ : ∀ w, Sat E w M → Q (.tuple #[.int .i64 ((p.pb * 5 + p.lp) * 9 + p.lc), .int .i64 0]) w) : Calls Tryz.prog 63 #[.agg #[.int .i64 p.lc, .int .i64 p.lp, .int .i64 p.pb]] w (retP Q) := by
  refine pithref12_PropsByte.calls ?_
  unfold pithref12_PropsByte.F
  have hd : decide p.Ok = true := decide_eq_true hp
  obtain ⟨h1, h2, h3, h4, h5⟩ := hp
  rw [Int.mul_comm p.pb 5] at hQ
  repeat' (first | (refine pc_pithref12_Allowed (R12Allowed_ok p (by omega) hS ?_); clear hS; intro w hS; rw [hd]) | refine pIf_f ?_ | refine pN_l hS (by first | rfl | assumption) ?_ | refine pN_la hS (by rfl) ?_ | (refine pN_bx hS (by rfl) ?_; clear hS; intro a w hS) | refine pN_v (hk := ?_) | fail)
  exact hQ _ hS.to
theorem R12PropsByte_no (p : Z.Pr) (hp : ¬ p.Ok) (hb : -9223372036854775808 ≤ p.lc ∧ p.lc < 9223372036854775808) (hS : Sat E w M) (hQ : ∀ w, Sat E w M → Q (.tuple #[.int .i64 0, .int .i64 6]) w) : Calls Tryz.prog 63 #[.agg #[.int .i64 p.lc, .int .i64 p.lp, .int .i64 p.pb]] w (retP Q) := by
  refine pithref12_PropsByte.calls ?_
  unfold pithref12_PropsByte.F
  have hd : decide p.Ok = false := decide_eq_false hp
  repeat' (first | (refine pc_pithref12_Allowed (R12Allowed_ok p hb hS ?_); clear hS; intro w hS; rw [hd]) | refine pIf_t ?_ | refine pN_la hS (by rfl) ?_ | (refine pN_bx hS (by rfl) ?_; clear hS; intro a w hS) | refine pN_v (hk := ?_) | fail)
  exact hQ _ hS.to
theorem R12Formed_ok (hS : Sat E w M) (hQ : ∀ w, Sat E w M → Q (.int .i64 (Z.errY y)) w) :
    Calls Tryz.prog 160 #[.agg #[.int .i64 y.Kind, bv y.Byte, .int .i64 y.Len, .int .i64 y.Dist]] w (retP Q) := by
  refine pithref12_Formed.calls ?_
  unfold pithref12_Formed.F
  obtain ⟨k, b, l, d⟩ := y
  unfold Z.errY at hQ
  dsimp only at hQ ⊢
  refine pN_bx hS (by rfl) fun x1 w hS => ?_
  by_cases h1 : k = 1 ∨ k = 4
  · rw [if_pos h1] at hQ
    rcases h1 with rfl | rfl
    · repeat' (first | ((first | refine pN_leq_s ?_ ?_ | refine pN_geq_s ?_ ?_) <;> intro hc <;> try (exfalso; omega)) | (refine pN_eql_s ?_ ?_ <;> intro hc <;> try (exfalso; first | omega | exact hc rfl | exact hc (by assumption) | exact absurd hc (by assumption))) | refine pIf_t ?_ | refine pGd_go (by rfl) ?_ | refine pGd_no (by rfl) ?_ | refine pN_l hS (by first | rfl | assumption) ?_ | refine pN_v (hk := ?_) | refine ⟨_, ?_, fun _ _ h => h⟩ | refine ⟨_, ?_, fun _ _ _ h => h⟩ | fail)
      all_goals exact hQ _ hS.to
    · repeat' (first | ((first | refine pN_leq_s ?_ ?_ | refine pN_geq_s ?_ ?_) <;> intro hc <;> try (exfalso; omega)) | (refine pN_eql_s ?_ ?_ <;> intro hc <;> try (exfalso; first | omega | exact hc rfl | exact hc (by assumption) | exact absurd hc (by assumption))) | refine pIf_t ?_ | refine pIf_f ?_ | refine pGd_go (by rfl) ?_ | refine pGd_no (by rfl) ?_ | refine pN_l hS (by first | rfl | assumption) ?_ | refine pN_v (hk := ?_) | refine ⟨_, ?_, fun _ _ h => h⟩ | refine ⟨_, ?_, fun _ _ _ h => h⟩ | fail)
      all_goals exact hQ _ hS.to
  rw [if_neg h1] at hQ
  by_cases h2 : k = 2
  · subst h2
    rw [if_pos rfl] at hQ
    by_cases hc : Z.isLen l ∧ Z.isDist d
    · rw [if_pos hc] at hQ
      obtain ⟨⟨c1, c2⟩, c3, c4⟩ := hc
      repeat' (first | ((first | refine pN_lss_s ?_ ?_ | refine pN_leq_s ?_ ?_ | refine pN_gtr_s ?_ ?_ | refine pN_geq_s ?_ ?_) <;> intro hc <;> try (exfalso; omega)) | (refine pN_eql_s ?_ ?_ <;> intro hc <;> try (exfalso; first | omega | exact hc rfl | exact hc (by assumption) | exact absurd hc (by assumption))) | refine pIf_t ?_ | refine pIf_f ?_ | refine pGd_go (by rfl) ?_ | refine pN_l hS (by first | rfl | assumption) ?_ | refine pN_v (hk := ?_) | refine ⟨_, ?_, fun _ _ h => h⟩ | refine ⟨_, ?_, fun _ _ _ h => h⟩ | fail)
      all_goals exact hQ _ hS.to
    · rw [if_neg hc] at hQ
      unfold Z.isLen Z.isDist at hc
      repeat' (first | ((first | refine pN_lss_s ?_ ?_ | refine pN_leq_s ?_ ?_ | refine pN_gtr_s ?_ ?_ | refine pN_geq_s ?_ ?_) <;> intro hc <;> try (exfalso; omega)) | (refine pN_eql_s ?_ ?_ <;> intro hc <;> try (exfalso; first | omega | exact hc rfl | exact hc (by assumption) | exact absurd hc (by assumption))) | refine pIf_t ?_ | refine pIf_f ?_ | refine pGd_go (by rfl) ?_ | refine pGd_no (by rfl) ?_ | refine pN_l hS (by first | rfl | assumption) ?_ | refine pN_v (hk := ?_) | refine ⟨_, ?_, fun _ _ h => h⟩ | refine ⟨_, ?_, fun _ _ _ h => h⟩ | fail)
      all_goals exact hQ _ hS.to
  rw [if_neg h2] at hQ
  by_cases h3 : k = 3
  · subst h3
    rw [if_pos rfl] at hQ
    by_cases hc : Z.isLen l ∧ 0 ≤ d ∧ d ≤ 3
    · rw [if_pos hc] at hQ
      obtain ⟨⟨c1, c2⟩, c3, c4⟩ := hc
      repeat' (first | ((first | refine pN_lss_s ?_ ?_ | refine pN_leq_s ?_ ?_ | refine pN_gtr_s ?_ ?_ | refine pN_geq_s ?_ ?_) <;> intro hc <;> try (exfalso; omega)) | (refine pN_eql_s ?_ ?_ <;> intro hc <;> try (exfalso; first | omega | exact hc rfl | exact hc (by assumption) | exact absurd hc (by assumption))) | refine pIf_t ?_ | refine pIf_f ?_ | refine pGd_go (by rfl) ?_ | refine pN_l hS (by first | rfl | assumption) ?_ | refine pN_v (hk := ?_) | refine ⟨_, ?_, fun _ _ h => h⟩ | refine ⟨_, ?_, fun _ _ _ h => h⟩ | fail)
      all_goals exact hQ _ hS.to
    · rw [if_neg hc] at hQ
      unfold Z.isLen at hc
      repeat' (first | ((first | refine pN_lss_s ?_ ?_ | refine pN_leq_s ?_ ?_ | refine pN_gtr_s ?_ ?_ | refine pN_geq_s ?_ ?_) <;> intro hc <;> try (exfalso; omega)) | (refine pN_eql_s ?_ ?_ <;> intro hc <;> try (exfalso; first | omega | exact hc rfl | exact hc (by assumption) | exact absurd hc (by assumption))) | refine pIf_t ?_ | refine pIf_f ?_ | refine pGd_go (by rfl) ?_ | refine pGd_no (by rfl) ?_ | refine pN_l hS (by first | rfl | assumption) ?_ | refine pN_v (hk := ?_) | refine ⟨_, ?_, fun _ _ h => h⟩ | refine ⟨_, ?_, fun _ _ _ h => h⟩ | fail)
      all_goals exact hQ _ hS.to
  rw [if_neg h3] at hQ
  repeat' (first | ((first | refine pN_leq_s ?_ ?_ | refine pN_geq_s ?_ ?_) <;> intro hc <;> try (exfalso; omega)) | (refine pN_eql_s ?_ ?_ <;> intro hc <;> try (exfalso; first | omega | exact hc rfl | exact hc (by assumption) | exact absurd hc (by assumption))) | refine pIf_f ?_ | refine pGd_go (by rfl) ?_ | refine pGd_no (by rfl) ?_ | refine pN_l hS (by first | rfl | assumption) ?_ | refine pN_v (hk := ?_) | refine ⟨_, ?_, fun _ _ h => h⟩ | refine ⟨_, ?_, fun _ _ _ h => h⟩ | fail)
  all_goals exact hQ _ hS.to
theorem R12Right_ok (hS : Sat E w M) (hr : s.Right) (hQ : ∀ w, Sat E w M → Q (.bool true) w) : Calls Tryz.prog 159 #[.agg #[.int .i64 s.num, .int .i64 s.r0, .int .i64 s.r1, .int .i64 s.r2, .int .i64 s.r3]] w (retP Q) := by
  refine pithref12_Right.calls ?_
  unfold pithref12_Right.F
  have hn := hr.num
  repeat' (first | (refine pN_bx hS (by rfl) ?_; clear hS; intro a w hS) | fail)
  refine ⟨fun v w => ∃ i : Nat, v = .int .i64 i ∧ i ≤ 4 ∧ Sat E w (cel a ⟨69, [.int .i64 s.num, .int .i64 s.r0, .int .i64 s.r1, .int .i64 s.r2, .int .i64 s.r3]⟩ :: M), fun v _ => 4 - (RowKit.intOf v).toNat, ⟨0, rfl, by omega, hS⟩, ?_⟩
  clear hS
  rintro _ _ w ⟨i, rfl, hi, hS⟩
  obtain ⟨⟨a1, a2⟩, ⟨b1, b2⟩, ⟨c1, c2⟩, ⟨d1, d2⟩, ⟨e1, e2⟩⟩ := hr
  have h4 : i = 0 ∨ i = 1 ∨ i = 2 ∨ i = 3 ∨ i = 4 := by omega
  rcases h4 with rfl | rfl | rfl | rfl | rfl
  · repeat' (first | ((first | refine pN_lss_s ?_ ?_ | refine pN_gtr_s ?_ ?_) <;> intro hc <;> try (exfalso; omega)) | refine pIf_t ?_ | refine pIf_f ?_ | refine pGd_go (by rfl) ?_ | refine pN_l hS (by first | rfl | assumption) ?_ | refine pN_v (hk := ?_) | fail)
    exact ⟨⟨1, rfl, by omega, hS⟩, by simp [RowKit.intOf]⟩
  · repeat' (first | ((first | refine pN_lss_s ?_ ?_ | refine pN_gtr_s ?_ ?_) <;> intro hc <;> try (exfalso; omega)) | refine pIf_t ?_ | refine pIf_f ?_ | refine pGd_go (by rfl) ?_ | refine pN_l hS (by first | rfl | assumption) ?_ | refine pN_v (hk := ?_) | fail)
    exact ⟨⟨2, rfl, by omega, hS⟩, by simp [RowKit.intOf]⟩
  · repeat' (first | ((first | refine pN_lss_s ?_ ?_ | refine pN_gtr_s ?_ ?_) <;> intro hc <;> try (exfalso; omega)) | refine pIf_t ?_ | refine pIf_f ?_ | refine pGd_go (by rfl) ?_ | refine pN_l hS (by first | rfl | assumption) ?_ | refine pN_v (hk := ?_) | fail)
    exact ⟨⟨3, rfl, by omega, hS⟩, by simp [RowKit.intOf]⟩
  · repeat' (first | ((first | refine pN_lss_s ?_ ?_ | refine pN_gtr_s ?_ ?_) <;> intro hc <;> try (exfalso; omega)) | refine pIf_t ?_ | refine pIf_f ?_ | refine pGd_go (by rfl) ?_ | refine pN_l hS (by first | rfl | assumption) ?_ | refine pN_v (hk := ?_) | fail)
    exact ⟨⟨4, rfl, by omega, hS⟩, by simp [RowKit.intOf]⟩
  · repeat' (first | ((first | refine pN_lss_s ?_ ?_ | refine pN_leq_s ?_ ?_ | refine pN_geq_s ?_ ?_) <;> intro hc <;> try (exfalso; omega)) | refine pIf_f ?_ | refine pGd_go (by rfl) ?_ | refine pN_l hS (by first | rfl | assumption) ?_ | refine pN_v (hk := ?_) | fail)
    exact hQ _ hS.to
theorem R12Next_no (hS : Sat E w M) (hr : s.Right) (hy : Z.errY y ≠ 0) (hQ : ∀ w, Sat E w M → Q (.tuple #[.agg #[.int .i64 0, .int .i64 0, .int .i64 0, .int .i64 0, .int .i64 0], .int .i64 (Z.errY y)]) w) :
    Calls Tryz.prog 119 #[.agg #[.int .i64 s.num, .int .i64 s.r0, .int .i64 s.r1, .int .i64 s.r2, .int .i64 s.r3], .agg #[.int .i64 y.Kind, bv y.Byte, .int .i64 y.Len, .int .i64 y.Dist]] w (retP Q) := by
  refine pithref12_Next.calls ?_
  unfold pithref12_Next.F
  refine pN_bx hS (by rfl) fun x2 w hS => ?_
  refine pN_bx hS (by rfl) fun x3 w hS => ?_
  refine pN_nz hS fun x4 w hS => ?_
  refine pN_la hS (by rfl) ?_
  refine pc_pithref12_Right (R12Right_ok hS hr fun w hS => ?_)
  repeat' (first | (refine pc_pithref12_Formed (R12Formed_ok (y := y) hS ?_); clear hS; intro w hS) | (refine pN_neq_s ?_ ?_ <;> intro hc <;> try (exfalso; first | omega | exact hc rfl | exact hc (by assumption) | exact absurd hc (by assumption))) | refine pIf_t ?_ | refine pIf_f ?_ | refine pN_la hS (by rfl) ?_ | refine pL_ra hS (by rfl) ?_ | (refine pN_sa hS (by rfl) (by rfl) (by rfl) ?_; clear hS; intro w hS; try dsimp only at hS) | refine pN_v (hk := ?_) | fail)
  exact hQ _ hS.to
set_option maxHeartbeats 3200000 in
theorem R12Next_in (hS : Sat E w M) (hr : s.Right) (hy : Z.errY y = 0) (hQ : ∀ w, Sat E w M → Q (.tuple #[.agg (s.next y).cells.toArray, .int .i64 0]) w) :
    Calls Tryz.prog 119 #[.agg #[.int .i64 s.num, .int .i64 s.r0, .int .i64 s.r1, .int .i64 s.r2, .int .i64 s.r3], .agg #[.int .i64 y.Kind, bv y.Byte, .int .i64 y.Len, .int .i64 y.Dist]] w (retP Q) := by
  refine pithref12_Next.calls ?_
  unfold pithref12_Next.F
  have hn := hr.num
  refine pN_bx hS (by rfl) fun x2 w hS => ?_
  refine pN_bx hS (by rfl) fun x3 w hS => ?_
  refine pN_nz hS fun x4 w hS => ?_
  refine pN_la hS (by rfl) ?_
  refine pc_pithref12_Right (R12Right_ok hS hr fun w hS => ?_)
  have hf : ∀ {w : World} {M : List HA} {Q : Value → World → Prop}, Sat E w M → (∀ w, Sat E w M → Q (.int .i64 0) w) → Calls Tryz.prog 160 #[.agg #[.int .i64 y.Kind, bv y.Byte, .int .i64 y.Len, .int .i64 y.Dist]] w (retP Q) := fun hS hQ => R12Formed_ok (y := y) hS (by rw [hy]; exact hQ)
  repeat' (first | (refine pc_pithref12_Formed (hf hS ?_); clear hS; intro w hS) | (refine pc_pithref12_moved (R12moved_ok s.num y.Kind hn ?_)) | refine pL_la_at hS [.int .i64 s.r0, .int .i64 s.r1, .int .i64 s.r2, .int .i64 s.r3] rfl rfl ?_ | refine And.intro ?_ ?_ | exact trivial | exact run_la_at hS [.int .i64 s.r0, .int .i64 s.r1, .int .i64 s.r2, .int .i64 s.r3] rfl rfl | exact run_l hS rfl | (refine pN_neq_s ?_ ?_ <;> intro hc <;> try (exfalso; first | omega | exact hc rfl | exact hc (by assumption) | exact absurd hc (by assumption))) | refine pIf_f ?_ | refine pL_l hS (by first | rfl | assumption) ?_ | refine pN_la hS (by rfl) ?_ | (refine pN_sa hS (by rfl) (by rfl) (by rfl) ?_; clear hS; intro w hS; try dsimp only at hS) | (refine pDr_go hS ?_; clear hS; intro w hS) | (refine pN_nz hS ?_; clear hS; intro a w hS) | refine pN_v (hk := ?_) | refine pA_v (hk := ?_) | fail)
  all_goals
    refine ⟨fun w => Sat E w (cel a ⟨69, (if y.Kind = 2 then (⟨Z.moved s.num y.Kind, y.Dist, s.r0, s.r1, s.r2⟩ : Z.St) else ⟨Z.moved s.num y.Kind, s.r0, s.r1, s.r2, s.r3⟩).cells⟩ :: cel x4 ⟨69, [.int .i64 0, .int .i64 0, .int .i64 0, .int .i64 0, .int .i64 0]⟩ :: cel x3 ⟨48, [.int .i64 y.Kind, bv y.Byte, .int .i64 y.Len, .int .i64 y.Dist]⟩ :: cel x2 ⟨69, [.int .i64 s.num, .int .i64 s.r0, .int .i64 s.r1, .int .i64 s.r2, .int .i64 s.r3]⟩ :: M), ?_, ?_⟩
    · by_cases hk : y.Kind = 2
      · rw [if_pos hk]
        repeat' (first | (refine pN_sa_at hS (by rfl) (Nat.le_of_ble_eq_true rfl) (by rfl) ?_; clear hS; intro w hS) | (refine pN_eql_s ?_ ?_ <;> intro hc <;> try (exfalso; first | omega | exact hc rfl | exact hc (by assumption) | exact absurd hc (by assumption))) | refine pIf_t ?_ | refine pN_l hS (by first | rfl | assumption) ?_ | refine pN_v (hk := ?_) | fail)
        exact hS
      · rw [if_neg hk]
        repeat' (first | (refine pN_eql_s ?_ ?_ <;> intro hc <;> try (exfalso; first | omega | exact hc rfl | exact hc (by assumption) | exact absurd hc (by assumption))) | refine pIf_f ?_ | refine pN_l hS (by first | rfl | assumption) ?_ | refine pN_v (hk := ?_) | fail)
        exact hS
    · clear hS
      rintro _ w hS
      refine ⟨fun w => Sat E w (cel a ⟨69, (s.next y).cells⟩ :: cel x4 ⟨69, [.int .i64 0, .int .i64 0, .int .i64 0, .int .i64 0, .int .i64 0]⟩ :: cel x3 ⟨48, [.int .i64 y.Kind, bv y.Byte, .int .i64 y.Len, .int .i64 y.Dist]⟩ :: cel x2 ⟨69, [.int .i64 s.num, .int .i64 s.r0, .int .i64 s.r1, .int .i64 s.r2, .int .i64 s.r3]⟩ :: M), ?_, ?_⟩
      · by_cases hk : y.Kind = 3
        · rw [hk, if_neg (by omega)] at hS
          have hd : 0 ≤ y.Dist ∧ y.Dist ≤ 3 := by
            unfold Z.errY at hy
            rw [if_neg (by omega), if_neg (by omega), if_pos hk] at hy
            by_cases h : Z.isLen y.Len ∧ 0 ≤ y.Dist ∧ y.Dist ≤ 3
            · exact h.2
            · rw [if_neg h] at hy; omega
          have h4 : y.Dist = 0 ∨ y.Dist = 1 ∨ y.Dist = 2 ∨ y.Dist = 3 := by omega
          rcases h4 with h4 | h4 | h4 | h4
          · have en : s.next y = Z.mid s 0 4 := by unfold Z.St.next; rw [if_neg (by omega), if_pos hk]; simp only [h4]; rfl
            rw [h4] at hS ⊢
            repeat' (first | (refine pN_eql_s ?_ ?_ <;> intro hc <;> try (exfalso; first | omega | exact hc rfl | exact hc (by assumption) | exact absurd hc (by assumption))) | refine pIf_t ?_ | refine pN_l hS (by first | rfl | assumption) ?_ | (refine pN_s hS (by first | exact Nat.le_of_ble_eq_true rfl | assumption) (by rfl) ?_; clear hS; intro w hS; try simp only [List.set_cons_zero, List.set_cons_succ] at hS) | refine pN_v (hk := ?_) | fail)
            refine ⟨fun v v2 w => ∃ i : Nat, v = .int .i64 (Z.midK 0 i) ∧ v2 = .int .i64 i ∧ i ≤ 4 ∧ Sat E w (cel a ⟨69, (Z.mid s 0 i).cells⟩ :: cel x4 ⟨69, [.int .i64 0, .int .i64 0, .int .i64 0, .int .i64 0, .int .i64 0]⟩ :: cel x3 ⟨48, [.int .i64 3, bv y.Byte, .int .i64 y.Len, .int .i64 0]⟩ :: cel x2 ⟨69, [.int .i64 s.num, .int .i64 s.r0, .int .i64 s.r1, .int .i64 s.r2, .int .i64 s.r3]⟩ :: M), fun _ v _ => 4 - (RowKit.intOf v).toNat, ⟨0, rfl, rfl, by omega, hS⟩, ?_⟩
            clear hS
            rintro _ _ _ w ⟨i, rfl, rfl, hi, hS⟩
            have h5 : i = 0 ∨ i = 1 ∨ i = 2 ∨ i = 3 ∨ i = 4 := by omega
            rcases h5 with rfl | rfl | rfl | rfl | rfl
            · dsimp only [Z.mid, Z.midK, Z.St.cells] at hS ⊢
              repeat' (first | (refine pN_lss_s ?_ ?_ <;> intro hc <;> try (exfalso; omega)) | (refine pN_neq_s ?_ ?_ <;> intro hc <;> try (exfalso; first | omega | exact hc rfl | exact hc (by assumption) | exact absurd hc (by assumption))) | refine pIf_t ?_ | refine pIf_f ?_ | refine pN_l hS (by first | rfl | assumption) ?_ | refine pN_v (hk := ?_) | refine ⟨_, ?_, fun _ _ _ h => h⟩ | fail)
              exact ⟨⟨1, rfl, rfl, by omega, hS⟩, by simp [RowKit.intOf]⟩
            · dsimp only [Z.mid, Z.midK, Z.St.cells] at hS ⊢
              repeat' (first | (refine pN_lss_s ?_ ?_ <;> intro hc <;> try (exfalso; omega)) | (refine pN_neq_s ?_ ?_ <;> intro hc <;> try (exfalso; first | omega | exact hc rfl | exact hc (by assumption) | exact absurd hc (by assumption))) | refine pIf_t ?_ | refine pN_l hS (by first | rfl | assumption) ?_ | (refine pN_s hS (by first | exact Nat.le_of_ble_eq_true rfl | assumption) (by rfl) ?_; clear hS; intro w hS; try simp only [List.set_cons_zero, List.set_cons_succ] at hS) | refine pN_v (hk := ?_) | refine ⟨_, ?_, fun _ _ _ h => h⟩ | fail)
              exact ⟨⟨2, rfl, rfl, by omega, hS⟩, by simp [RowKit.intOf]⟩
            · dsimp only [Z.mid, Z.midK, Z.St.cells] at hS ⊢
              repeat' (first | (refine pN_lss_s ?_ ?_ <;> intro hc <;> try (exfalso; omega)) | (refine pN_neq_s ?_ ?_ <;> intro hc <;> try (exfalso; first | omega | exact hc rfl | exact hc (by assumption) | exact absurd hc (by assumption))) | refine pIf_t ?_ | refine pN_l hS (by first | rfl | assumption) ?_ | (refine pN_s hS (by first | exact Nat.le_of_ble_eq_true rfl | assumption) (by rfl) ?_; clear hS; intro w hS; try simp only [List.set_cons_zero, List.set_cons_succ] at hS) | refine pN_v (hk := ?_) | refine ⟨_, ?_, fun _ _ _ h => h⟩ | fail)
              exact ⟨⟨3, rfl, rfl, by omega, hS⟩, by simp [RowKit.intOf]⟩
            · dsimp only [Z.mid, Z.midK, Z.St.cells] at hS ⊢
              repeat' (first | (refine pN_lss_s ?_ ?_ <;> intro hc <;> try (exfalso; omega)) | (refine pN_neq_s ?_ ?_ <;> intro hc <;> try (exfalso; first | omega | exact hc rfl | exact hc (by assumption) | exact absurd hc (by assumption))) | refine pIf_t ?_ | refine pN_l hS (by first | rfl | assumption) ?_ | (refine pN_s hS (by first | exact Nat.le_of_ble_eq_true rfl | assumption) (by rfl) ?_; clear hS; intro w hS; try simp only [List.set_cons_zero, List.set_cons_succ] at hS) | refine pN_v (hk := ?_) | refine ⟨_, ?_, fun _ _ _ h => h⟩ | fail)
              exact ⟨⟨4, rfl, rfl, by omega, hS⟩, by simp [RowKit.intOf]⟩
            · repeat' (first | (refine pN_lss_s ?_ ?_ <;> intro hc <;> try (exfalso; omega)) | refine pIf_f ?_ | fail)
              rw [en, hk]
              exact hS
          · have en : s.next y = Z.mid s 1 4 := by unfold Z.St.next; rw [if_neg (by omega), if_pos hk]; simp only [h4]; rfl
            rw [h4] at hS ⊢
            repeat' (first | (refine pN_eql_s ?_ ?_ <;> intro hc <;> try (exfalso; first | omega | exact hc rfl | exact hc (by assumption) | exact absurd hc (by assumption))) | refine pIf_t ?_ | refine pN_l hS (by first | rfl | assumption) ?_ | (refine pN_s hS (by first | exact Nat.le_of_ble_eq_true rfl | assumption) (by rfl) ?_; clear hS; intro w hS; try simp only [List.set_cons_zero, List.set_cons_succ] at hS) | refine pN_v (hk := ?_) | fail)
            refine ⟨fun v v2 w => ∃ i : Nat, v = .int .i64 (Z.midK 1 i) ∧ v2 = .int .i64 i ∧ i ≤ 4 ∧ Sat E w (cel a ⟨69, (Z.mid s 1 i).cells⟩ :: cel x4 ⟨69, [.int .i64 0, .int .i64 0, .int .i64 0, .int .i64 0, .int .i64 0]⟩ :: cel x3 ⟨48, [.int .i64 3, bv y.Byte, .int .i64 y.Len, .int .i64 1]⟩ :: cel x2 ⟨69, [.int .i64 s.num, .int .i64 s.r0, .int .i64 s.r1, .int .i64 s.r2, .int .i64 s.r3]⟩ :: M), fun _ v _ => 4 - (RowKit.intOf v).toNat, ⟨0, rfl, rfl, by omega, hS⟩, ?_⟩
            clear hS
            rintro _ _ _ w ⟨i, rfl, rfl, hi, hS⟩
            have h5 : i = 0 ∨ i = 1 ∨ i = 2 ∨ i = 3 ∨ i = 4 := by omega
            rcases h5 with rfl | rfl | rfl | rfl | rfl
            · dsimp only [Z.mid, Z.midK, Z.St.cells] at hS ⊢
              repeat' (first | (refine pN_lss_s ?_ ?_ <;> intro hc <;> try (exfalso; omega)) | (refine pN_neq_s ?_ ?_ <;> intro hc <;> try (exfalso; first | omega | exact hc rfl | exact hc (by assumption) | exact absurd hc (by assumption))) | refine pIf_t ?_ | refine pN_l hS (by first | rfl | assumption) ?_ | (refine pN_s hS (by first | exact Nat.le_of_ble_eq_true rfl | assumption) (by rfl) ?_; clear hS; intro w hS; try simp only [List.set_cons_zero, List.set_cons_succ] at hS) | refine pN_v (hk := ?_) | refine ⟨_, ?_, fun _ _ _ h => h⟩ | fail)
              exact ⟨⟨1, rfl, rfl, by omega, hS⟩, by simp [RowKit.intOf]⟩
            · dsimp only [Z.mid, Z.midK, Z.St.cells] at hS ⊢
              repeat' (first | (refine pN_lss_s ?_ ?_ <;> intro hc <;> try (exfalso; omega)) | (refine pN_neq_s ?_ ?_ <;> intro hc <;> try (exfalso; first | omega | exact hc rfl | exact hc (by assumption) | exact absurd hc (by assumption))) | refine pIf_t ?_ | refine pIf_f ?_ | refine pN_l hS (by first | rfl | assumption) ?_ | refine pN_v (hk := ?_) | refine ⟨_, ?_, fun _ _ _ h => h⟩ | fail)
              exact ⟨⟨2, rfl, rfl, by omega, hS⟩, by simp [RowKit.intOf]⟩
            · dsimp only [Z.mid, Z.midK, Z.St.cells] at hS ⊢
              repeat' (first | (refine pN_lss_s ?_ ?_ <;> intro hc <;> try (exfalso; omega)) | (refine pN_neq_s ?_ ?_ <;> intro hc <;> try (exfalso; first | omega | exact hc rfl | exact hc (by assumption) | exact absurd hc (by assumption))) | refine pIf_t ?_ | refine pN_l hS (by first | rfl | assumption) ?_ | (refine pN_s hS (by first | exact Nat.le_of_ble_eq_true rfl | assumption) (by rfl) ?_; clear hS; intro w hS; try simp only [List.set_cons_zero, List.set_cons_succ] at hS) | refine pN_v (hk := ?_) | refine ⟨_, ?_, fun _ _ _ h => h⟩ | fail)
              exact ⟨⟨3, rfl, rfl, by omega, hS⟩, by simp [RowKit.intOf]⟩
            · dsimp only [Z.mid, Z.midK, Z.St.cells] at hS ⊢
              repeat' (first | (refine pN_lss_s ?_ ?_ <;> intro hc <;> try (exfalso; omega)) | (refine pN_neq_s ?_ ?_ <;> intro hc <;> try (exfalso; first | omega | exact hc rfl | exact hc (by assumption) | exact absurd hc (by assumption))) | refine pIf_t ?_ | refine pN_l hS (by first | rfl | assumption) ?_ | (refine pN_s hS (by first | exact Nat.le_of_ble_eq_true rfl | assumption) (by rfl) ?_; clear hS; intro w hS; try simp only [List.set_cons_zero, List.set_cons_succ] at hS) | refine pN_v (hk := ?_) | refine ⟨_, ?_, fun _ _ _ h => h⟩ | fail)
              exact ⟨⟨4, rfl, rfl, by omega, hS⟩, by simp [RowKit.intOf]⟩
            · repeat' (first | (refine pN_lss_s ?_ ?_ <;> intro hc <;> try (exfalso; omega)) | refine pIf_f ?_ | fail)
              rw [en, hk]
              exact hS
          · have en : s.next y = Z.mid s 2 4 := by unfold Z.St.next; rw [if_neg (by omega), if_pos hk]; simp only [h4]; rfl
            rw [h4] at hS ⊢
            repeat' (first | (refine pN_eql_s ?_ ?_ <;> intro hc <;> try (exfalso; first | omega | exact hc rfl | exact hc (by assumption) | exact absurd hc (by assumption))) | refine pIf_t ?_ | refine pN_l hS (by first | rfl | assumption) ?_ | (refine pN_s hS (by first | exact Nat.le_of_ble_eq_true rfl | assumption) (by rfl) ?_; clear hS; intro w hS; try simp only [List.set_cons_zero, List.set_cons_succ] at hS) | refine pN_v (hk := ?_) | fail)
            refine ⟨fun v v2 w => ∃ i : Nat, v = .int .i64 (Z.midK 2 i) ∧ v2 = .int .i64 i ∧ i ≤ 4 ∧ Sat E w (cel a ⟨69, (Z.mid s 2 i).cells⟩ :: cel x4 ⟨69, [.int .i64 0, .int .i64 0, .int .i64 0, .int .i64 0, .int .i64 0]⟩ :: cel x3 ⟨48, [.int .i64 3, bv y.Byte, .int .i64 y.Len, .int .i64 2]⟩ :: cel x2 ⟨69, [.int .i64 s.num, .int .i64 s.r0, .int .i64 s.r1, .int .i64 s.r2, .int .i64 s.r3]⟩ :: M), fun _ v _ => 4 - (RowKit.intOf v).toNat, ⟨0, rfl, rfl, by omega, hS⟩, ?_⟩
            clear hS
            rintro _ _ _ w ⟨i, rfl, rfl, hi, hS⟩
            have h5 : i = 0 ∨ i = 1 ∨ i = 2 ∨ i = 3 ∨ i = 4 := by omega
            rcases h5 with rfl | rfl | rfl | rfl | rfl
            · dsimp only [Z.mid, Z.midK, Z.St.cells] at hS ⊢
              repeat' (first | (refine pN_lss_s ?_ ?_ <;> intro hc <;> try (exfalso; omega)) | (refine pN_neq_s ?_ ?_ <;> intro hc <;> try (exfalso; first | omega | exact hc rfl | exact hc (by assumption) | exact absurd hc (by assumption))) | refine pIf_t ?_ | refine pN_l hS (by first | rfl | assumption) ?_ | (refine pN_s hS (by first | exact Nat.le_of_ble_eq_true rfl | assumption) (by rfl) ?_; clear hS; intro w hS; try simp only [List.set_cons_zero, List.set_cons_succ] at hS) | refine pN_v (hk := ?_) | refine ⟨_, ?_, fun _ _ _ h => h⟩ | fail)
              exact ⟨⟨1, rfl, rfl, by omega, hS⟩, by simp [RowKit.intOf]⟩
            · dsimp only [Z.mid, Z.midK, Z.St.cells] at hS ⊢
              repeat' (first | (refine pN_lss_s ?_ ?_ <;> intro hc <;> try (exfalso; omega)) | (refine pN_neq_s ?_ ?_ <;> intro hc <;> try (exfalso; first | omega | exact hc rfl | exact hc (by assumption) | exact absurd hc (by assumption))) | refine pIf_t ?_ | refine pN_l hS (by first | rfl | assumption) ?_ | (refine pN_s hS (by first | exact Nat.le_of_ble_eq_true rfl | assumption) (by rfl) ?_; clear hS; intro w hS; try simp only [List.set_cons_zero, List.set_cons_succ] at hS) | refine pN_v (hk := ?_) | refine ⟨_, ?_, fun _ _ _ h => h⟩ | fail)
              exact ⟨⟨2, rfl, rfl, by omega, hS⟩, by simp [RowKit.intOf]⟩
            · dsimp only [Z.mid, Z.midK, Z.St.cells] at hS ⊢
              repeat' (first | (refine pN_lss_s ?_ ?_ <;> intro hc <;> try (exfalso; omega)) | (refine pN_neq_s ?_ ?_ <;> intro hc <;> try (exfalso; first | omega | exact hc rfl | exact hc (by assumption) | exact absurd hc (by assumption))) | refine pIf_t ?_ | refine pIf_f ?_ | refine pN_l hS (by first | rfl | assumption) ?_ | refine pN_v (hk := ?_) | refine ⟨_, ?_, fun _ _ _ h => h⟩ | fail)
              exact ⟨⟨3, rfl, rfl, by omega, hS⟩, by simp [RowKit.intOf]⟩
            · dsimp only [Z.mid, Z.midK, Z.St.cells] at hS ⊢
              repeat' (first | (refine pN_lss_s ?_ ?_ <;> intro hc <;> try (exfalso; omega)) | (refine pN_neq_s ?_ ?_ <;> intro hc <;> try (exfalso; first | omega | exact hc rfl | exact hc (by assumption) | exact absurd hc (by assumption))) | refine pIf_t ?_ | refine pN_l hS (by first | rfl | assumption) ?_ | (refine pN_s hS (by first | exact Nat.le_of_ble_eq_true rfl | assumption) (by rfl) ?_; clear hS; intro w hS; try simp only [List.set_cons_zero, List.set_cons_succ] at hS) | refine pN_v (hk := ?_) | refine ⟨_, ?_, fun _ _ _ h => h⟩ | fail)
              exact ⟨⟨4, rfl, rfl, by omega, hS⟩, by simp [RowKit.intOf]⟩
            · repeat' (first | (refine pN_lss_s ?_ ?_ <;> intro hc <;> try (exfalso; omega)) | refine pIf_f ?_ | fail)
              rw [en, hk]
              exact hS
          · have en : s.next y = Z.mid s 3 4 := by unfold Z.St.next; rw [if_neg (by omega), if_pos hk]; simp only [h4]; rfl
            rw [h4] at hS ⊢
            repeat' (first | (refine pN_eql_s ?_ ?_ <;> intro hc <;> try (exfalso; first | omega | exact hc rfl | exact hc (by assumption) | exact absurd hc (by assumption))) | refine pIf_t ?_ | refine pN_l hS (by first | rfl | assumption) ?_ | (refine pN_s hS (by first | exact Nat.le_of_ble_eq_true rfl | assumption) (by rfl) ?_; clear hS; intro w hS; try simp only [List.set_cons_zero, List.set_cons_succ] at hS) | refine pN_v (hk := ?_) | fail)
            refine ⟨fun v v2 w => ∃ i : Nat, v = .int .i64 (Z.midK 3 i) ∧ v2 = .int .i64 i ∧ i ≤ 4 ∧ Sat E w (cel a ⟨69, (Z.mid s 3 i).cells⟩ :: cel x4 ⟨69, [.int .i64 0, .int .i64 0, .int .i64 0, .int .i64 0, .int .i64 0]⟩ :: cel x3 ⟨48, [.int .i64 3, bv y.Byte, .int .i64 y.Len, .int .i64 3]⟩ :: cel x2 ⟨69, [.int .i64 s.num, .int .i64 s.r0, .int .i64 s.r1, .int .i64 s.r2, .int .i64 s.r3]⟩ :: M), fun _ v _ => 4 - (RowKit.intOf v).toNat, ⟨0, rfl, rfl, by omega, hS⟩, ?_⟩
            clear hS
            rintro _ _ _ w ⟨i, rfl, rfl, hi, hS⟩
            have h5 : i = 0 ∨ i = 1 ∨ i = 2 ∨ i = 3 ∨ i = 4 := by omega
            rcases h5 with rfl | rfl | rfl | rfl | rfl
            · dsimp only [Z.mid, Z.midK, Z.St.cells] at hS ⊢
              repeat' (first | (refine pN_lss_s ?_ ?_ <;> intro hc <;> try (exfalso; omega)) | (refine pN_neq_s ?_ ?_ <;> intro hc <;> try (exfalso; first | omega | exact hc rfl | exact hc (by assumption) | exact absurd hc (by assumption))) | refine pIf_t ?_ | refine pN_l hS (by first | rfl | assumption) ?_ | (refine pN_s hS (by first | exact Nat.le_of_ble_eq_true rfl | assumption) (by rfl) ?_; clear hS; intro w hS; try simp only [List.set_cons_zero, List.set_cons_succ] at hS) | refine pN_v (hk := ?_) | refine ⟨_, ?_, fun _ _ _ h => h⟩ | fail)
              exact ⟨⟨1, rfl, rfl, by omega, hS⟩, by simp [RowKit.intOf]⟩
            · dsimp only [Z.mid, Z.midK, Z.St.cells] at hS ⊢
              repeat' (first | (refine pN_lss_s ?_ ?_ <;> intro hc <;> try (exfalso; omega)) | (refine pN_neq_s ?_ ?_ <;> intro hc <;> try (exfalso; first | omega | exact hc rfl | exact hc (by assumption) | exact absurd hc (by assumption))) | refine pIf_t ?_ | refine pN_l hS (by first | rfl | assumption) ?_ | (refine pN_s hS (by first | exact Nat.le_of_ble_eq_true rfl | assumption) (by rfl) ?_; clear hS; intro w hS; try simp only [List.set_cons_zero, List.set_cons_succ] at hS) | refine pN_v (hk := ?_) | refine ⟨_, ?_, fun _ _ _ h => h⟩ | fail)
              exact ⟨⟨2, rfl, rfl, by omega, hS⟩, by simp [RowKit.intOf]⟩
            · dsimp only [Z.mid, Z.midK, Z.St.cells] at hS ⊢
              repeat' (first | (refine pN_lss_s ?_ ?_ <;> intro hc <;> try (exfalso; omega)) | (refine pN_neq_s ?_ ?_ <;> intro hc <;> try (exfalso; first | omega | exact hc rfl | exact hc (by assumption) | exact absurd hc (by assumption))) | refine pIf_t ?_ | refine pN_l hS (by first | rfl | assumption) ?_ | (refine pN_s hS (by first | exact Nat.le_of_ble_eq_true rfl | assumption) (by rfl) ?_; clear hS; intro w hS; try simp only [List.set_cons_zero, List.set_cons_succ] at hS) | refine pN_v (hk := ?_) | refine ⟨_, ?_, fun _ _ _ h => h⟩ | fail)
              exact ⟨⟨3, rfl, rfl, by omega, hS⟩, by simp [RowKit.intOf]⟩
            · dsimp only [Z.mid, Z.midK, Z.St.cells] at hS ⊢
              repeat' (first | (refine pN_lss_s ?_ ?_ <;> intro hc <;> try (exfalso; omega)) | (refine pN_neq_s ?_ ?_ <;> intro hc <;> try (exfalso; first | omega | exact hc rfl | exact hc (by assumption) | exact absurd hc (by assumption))) | refine pIf_t ?_ | refine pIf_f ?_ | refine pN_l hS (by first | rfl | assumption) ?_ | refine pN_v (hk := ?_) | refine ⟨_, ?_, fun _ _ _ h => h⟩ | fail)
              exact ⟨⟨4, rfl, rfl, by omega, hS⟩, by simp [RowKit.intOf]⟩
            · repeat' (first | (refine pN_lss_s ?_ ?_ <;> intro hc <;> try (exfalso; omega)) | refine pIf_f ?_ | fail)
              rw [en, hk]
              exact hS
        · have en : (s.next y) = (if y.Kind = 2 then (⟨Z.moved s.num y.Kind, y.Dist, s.r0, s.r1, s.r2⟩ : Z.St) else ⟨Z.moved s.num y.Kind, s.r0, s.r1, s.r2, s.r3⟩) := by
            unfold Z.St.next
            by_cases h2 : y.Kind = 2
            · rw [if_pos h2, if_pos h2, h2]
            · rw [if_neg h2, if_neg h2, if_neg hk]
          rw [← en] at hS
          repeat' (first | (refine pN_eql_s ?_ ?_ <;> intro hc <;> try (exfalso; first | omega | exact hc rfl | exact hc (by assumption) | exact absurd hc (by assumption))) | refine pIf_f ?_ | refine pN_l hS (by first | rfl | assumption) ?_ | refine pN_v (hk := ?_) | fail)
          exact hS
      · clear hS
        rintro _ w hS
        repeat' (first | refine pN_la hS (by rfl) ?_ | refine pL_ra hS (by rfl) ?_ | (refine pN_sa hS (by rfl) (by rfl) (by rfl) ?_; clear hS; intro w hS; try dsimp only at hS) | fail)
        exact hQ _ hS.to
end

end Go.Proofs.YtbgnnjfpiblkmaaGreatDoor

namespace Go.Proofs.YtbgnnjfpiblkmaaGreatDoor
open Go
namespace R

theorem snoc_ind {α : Type} {p : List α → Prop} (h0 : p []) (h1 : ∀ l b, p l → p (l ++ [b])) (l : List α) : p l := by
  have : ∀ m : List α, p m.reverse := by
    intro m
    induction m with
    | nil => exact h0
    | cons b m ih => rw [List.reverse_cons]; exact h1 _ _ ih
  have := this l.reverse
  rwa [List.reverse_reverse] at this

def num (l : List UInt8) : Int := l.foldl (fun n b => n * 256 + (b.toNat : Int)) 0
theorem foldl_num (l : List UInt8) : ∀ n : Int, l.foldl (fun n b => n * 256 + (b.toNat : Int)) n = n * 256 ^ l.length + num l := by
  induction l with
  | nil => intro n; simp [num]
  | cons b l ih =>
    intro n
    simp only [num, List.foldl_cons, List.length_cons]
    rw [ih, ih (0 * 256 + (b.toNat : Int)), Int.pow_succ]
    grind
theorem num_append (l m : List UInt8) : num (l ++ m) = num l * 256 ^ m.length + num m := by
  rw [num, List.foldl_append, foldl_num]; rfl
theorem num_snoc (l : List UInt8) (b : UInt8) : num (l ++ [b]) = num l * 256 + (b.toNat : Int) := by
  rw [num_append]; simp [num]
theorem num_nonneg (l : List UInt8) : 0 ≤ num l := by
  induction l using snoc_ind with
  | h0 => simp [num]
  | h1 l b ih => rw [num_snoc]; omega
theorem num_lt (l : List UInt8) : num l < 256 ^ l.length := by
  induction l using snoc_ind with
  | h0 => simp [num]
  | h1 l b ih =>
    rw [num_snoc, List.length_append, List.length_cons, List.length_nil, Int.pow_succ]
    have := b.toNat_lt
    omega

def digits (n : Int) : Nat → List UInt8
  | 0 => []
  | k + 1 => digits (n / 256) k ++ [byteOf n]
theorem digits_length (k : Nat) : ∀ n : Int, (digits n k).length = k := by
  induction k with
  | zero => intro n; rfl
  | succ k ih => intro n; simp [digits, ih]
theorem num_digits (k : Nat) : ∀ n : Int, num (digits n k) = n % 256 ^ k := by
  induction k with
  | zero => intro n; simp [digits, num, Int.emod_one]
  | succ k ih =>
    intro n
    rw [digits, num_snoc, ih, byteOf_toNat, Int.pow_succ]
    have p : (0 : Int) < 256 ^ k := Int.pow_pos (by omega)
    generalize (256 : Int) ^ k = q at p
    have h1 := Int.emod_add_mul_ediv n 256
    have h2 := Int.emod_add_mul_ediv (n / 256) q
    have h3 := Int.emod_add_mul_ediv n (q * 256)
    have h4 : n / 256 / q = n / (q * 256) := by rw [Int.ediv_ediv_of_nonneg (by omega)]; congr 1; grind
    rw [h4] at h2
    generalize n / (q * 256) = d at h2 h3
    generalize n / 256 = c at h1 h2 ⊢
    generalize c % q = e at h2 ⊢
    grind
theorem digits_num (l : List UInt8) : digits (num l) l.length = l := by
  induction l using snoc_ind with
  | h0 => rfl
  | h1 l b ih =>
    rw [List.length_append, List.length_cons, List.length_nil, digits, num_snoc]
    have := b.toNat_lt
    have h1 : (num l * 256 + (b.toNat : Int)) / 256 = num l := by omega
    have h2 : byteOf (num l * 256 + (b.toNat : Int)) = b := by
      apply UInt8.toNat_inj.1
      have := byteOf_toNat (num l * 256 + (b.toNat : Int))
      omega
    rw [h1, ih, h2]
theorem digits_of {l : List UInt8} {n : Int} {k : Nat} (hl : l.length = k) (h : num l = n) : l = digits n k := by
  rw [← hl, ← h, digits_num]

structure S where
  N : Int
  R : Int
  k : Nat

def S.new : S := ⟨0, 4294967295, 0⟩
def S.widen (s : S) : S := if h : 0 < s.R ∧ s.R < 16777216 then S.widen ⟨s.N * 256, s.R * 256, s.k + 1⟩ else s
termination_by (16777216 - s.R).toNat
decreasing_by omega
theorem S.widen_go {s : S} (h0 : 0 < s.R) (h1 : s.R < 16777216) : s.widen = S.widen ⟨s.N * 256, s.R * 256, s.k + 1⟩ := by
  rw [S.widen, dif_pos ⟨h0, h1⟩]
theorem S.widen_no {s : S} (h1 : ¬ s.R < 16777216) : s.widen = s := by
  rw [S.widen, dif_neg (by omega)]
def S.cut (s : S) (c bit : Int) : S := (if bit = 0 then ⟨s.N, c, s.k⟩ else ⟨s.N + c, s.R - c, s.k⟩ : S).widen
def S.one (s : S) (bit : Int) : S := (if bit = 1 then ⟨s.N + s.R / 2, s.R / 2, s.k⟩ else ⟨s.N, s.R / 2, s.k⟩ : S).widen
def S.direct (s : S) (v : Int) : Nat → S
  | 0 => s
  | n + 1 => S.direct (s.one (v / 2 ^ n % 2)) v n
def S.bytes (s : S) : List UInt8 := digits s.N (s.k + 5)

structure Ok (s : S) : Prop where
  n0 : 0 ≤ s.N
  r0 : 16777216 ≤ s.R
  r1 : s.R < 4294967296
  top : s.N + s.R ≤ 4294967296 * 256 ^ s.k

theorem Ok.new : Ok S.new := ⟨by decide, by decide, by decide, by decide⟩
theorem widen_ok : ∀ (n : Nat) (s : S), (16777216 - s.R).toNat = n → 0 ≤ s.N → 0 < s.R → s.R < 4294967296 → s.N + s.R ≤ 4294967296 * 256 ^ s.k → Ok s.widen := by
  intro n
  induction n using Nat.strongRecOn with
  | _ n ih =>
    intro s hn h0 h1 h2 h3
    by_cases c : s.R < 16777216
    · rw [S.widen_go h1 c]
      refine ih (16777216 - s.R * 256).toNat (by omega) ⟨s.N * 256, s.R * 256, s.k + 1⟩ rfl (by simp only; omega) (by simp only; omega) (by simp only; omega) ?_
      simp only [Int.pow_succ]
      generalize (256 : Int) ^ s.k = W at h3 ⊢
      omega
    · rw [S.widen_no c]
      exact ⟨h0, by omega, h2, h3⟩
theorem Ok.cut {s : S} (h : Ok s) (c bit : Int) (h0 : 0 < c) (h1 : c < s.R) : Ok (s.cut c bit) := by
  obtain ⟨a1, a2, a3, a4⟩ := h
  unfold S.cut
  split
  · exact widen_ok _ _ rfl a1 h0 (by simp only; omega) (by simp only; omega)
  · exact widen_ok _ _ rfl (by simp only; omega) (by simp only; omega) (by simp only; omega) (by simp only; omega)
theorem Ok.one {s : S} (h : Ok s) (bit : Int) : Ok (s.one bit) := by
  obtain ⟨a1, a2, a3, a4⟩ := h
  unfold S.one
  split
  · exact widen_ok _ _ rfl (by simp only; omega) (by simp only; omega) (by simp only; omega) (by simp only; omega)
  · exact widen_ok _ _ rfl a1 (by simp only; omega) (by simp only; omega) (by simp only; omega)
theorem Ok.direct (v : Int) (n : Nat) : ∀ {s : S}, Ok s → Ok (s.direct v n) := by
  induction n with
  | zero => intro s h; exact h
  | succ n ih => intro s h; exact ih (h.one _)

theorem widen_k : ∀ (n : Nat) (s : S), (16777216 - s.R).toNat = n → 0 < s.R → s.widen.k ≤ s.k + 3 ∧ (65536 ≤ s.R → s.widen.k ≤ s.k + 1) := by
  have step : ∀ s : S, 16777216 ≤ s.R → s.widen.k = s.k := fun s h => by rw [S.widen_no (by omega)]
  have s1 : ∀ s : S, 65536 ≤ s.R → s.widen.k ≤ s.k + 1 := fun s h => by
    by_cases c : s.R < 16777216
    · rw [S.widen_go (by omega) c, step _ (by simp only; omega)]; exact Nat.le_refl _
    · rw [step s (by omega)]; omega
  have s2 : ∀ s : S, 256 ≤ s.R → s.widen.k ≤ s.k + 2 := fun s h => by
    by_cases c : s.R < 16777216
    · rw [S.widen_go (by omega) c]; have := s1 ⟨s.N * 256, s.R * 256, s.k + 1⟩ (by simp only; omega); simp only at this; omega
    · rw [step s (by omega)]; omega
  intro n s _ h
  refine ⟨?_, s1 s⟩
  by_cases c : s.R < 16777216
  · rw [S.widen_go (by omega) c]; have := s2 ⟨s.N * 256, s.R * 256, s.k + 1⟩ (by simp only; omega); simp only at this; omega
  · rw [step s (by omega)]; omega
theorem cut_k {s : S} (h : Ok s) (c bit : Int) (h0 : 0 < c) (h1 : c < s.R) : (s.cut c bit).k ≤ s.k + 3 := by
  unfold S.cut
  split
  · exact (widen_k _ ⟨s.N, c, s.k⟩ rfl h0).1
  · exact (widen_k _ ⟨s.N + c, s.R - c, s.k⟩ rfl (by simp only; omega)).1
theorem one_k {s : S} (h : Ok s) (bit : Int) : (s.one bit).k ≤ s.k + 1 := by
  have := h.r0
  unfold S.one
  split
  · exact (widen_k _ ⟨s.N + s.R / 2, s.R / 2, s.k⟩ rfl (by simp only; omega)).2 (by simp only; omega)
  · exact (widen_k _ ⟨s.N, s.R / 2, s.k⟩ rfl (by simp only; omega)).2 (by simp only; omega)

structure E where
  low : Int
  rng : Int
  held : UInt8
  wait : Nat
  out : List UInt8

def E.new : E := ⟨0, 4294967295, 0, 0, []⟩
def E.V (e : E) : Int := ((num e.out * 256 + e.held.toNat) * 256 ^ e.wait + (256 ^ e.wait - 1)) * 4294967296 + e.low

structure Inv (e : E) : Prop where
  l0 : 0 ≤ e.low
  r0 : 0 < e.rng
  sum : e.low + e.rng < 8589934592
  held : e.held.toNat = 255 → e.low + e.rng ≤ 4294967296

def E.shift (e : E) : E :=
  if e.low < 4278190080 ∨ 4294967295 < e.low then
    ⟨e.low % 16777216 * 256, e.rng, byteOf (e.low / 16777216), 0, e.out ++ [e.held + byteOf (e.low / 4294967296)] ++ List.replicate e.wait (255 + byteOf (e.low / 4294967296))⟩
  else ⟨e.low % 16777216 * 256, e.rng, e.held, e.wait + 1, e.out⟩

theorem shift_low (e : E) : e.shift.low = e.low % 16777216 * 256 := by unfold E.shift; split <;> rfl
theorem shift_rng (e : E) : e.shift.rng = e.rng := by unfold E.shift; split <;> rfl
theorem shift_len (e : E) : e.shift.out.length + e.shift.wait = e.out.length + e.wait + 1 := by
  unfold E.shift; split <;> simp <;> omega

theorem num_replicate (b : UInt8) (n : Nat) : num (List.replicate n b) * 255 = b.toNat * (256 ^ n - 1) := by
  induction n with
  | zero => simp [num]
  | succ n ih =>
    rw [List.replicate_succ', num_snoc, Int.pow_succ]
    grind

theorem shift_V {e : E} (h : Inv e) : e.shift.V = e.V * 256 := by
  obtain ⟨h1, h2, h3, h4⟩ := h
  have hh := e.held.toNat_lt
  unfold E.shift
  have p : (0 : Int) < 256 ^ e.wait := Int.pow_pos (by omega)
  by_cases c : e.low < 4278190080 ∨ 4294967295 < e.low
  · rw [if_pos c]
    have ehb := byteOf_toNat (e.low / 16777216)
    have ec := byteOf_toNat (e.low / 4294967296)
    simp only [E.V, Int.pow_zero]
    rw [num_append, num_snoc, List.length_replicate]
    have er := num_replicate (255 + byteOf (e.low / 4294967296)) e.wait
    generalize (256 : Int) ^ e.wait = W at p er ⊢
    rcases c with c | c
    · have e0 : byteOf (e.low / 4294967296) = 0 := by
        apply UInt8.toNat_inj.1
        have e : ((0 : UInt8).toNat) = 0 := rfl
        omega
      rw [e0] at er ⊢
      have e1 : ((255 + 0 : UInt8).toNat : Int) = 255 := rfl
      have e2 : e.held + 0 = e.held := by simp
      rw [e1] at er
      rw [e2, ehb]
      have er' : num (List.replicate e.wait (255 + 0 : UInt8)) = W - 1 := by omega
      rw [er']
      have e3 : e.low / 16777216 % 256 * 4294967296 + e.low % 16777216 * 256 = e.low * 256 := by omega
      grind
    · have e0 : byteOf (e.low / 4294967296) = 1 := by
        apply UInt8.toNat_inj.1
        have e : ((1 : UInt8).toNat) = 1 := rfl
        omega
      rw [e0] at er ⊢
      have e1 : ((255 + 1 : UInt8).toNat : Int) = 0 := rfl
      rw [e1] at er
      have hne : e.held.toNat ≠ 255 := fun hc => by have := h4 hc; omega
      have e2 : ((e.held + 1).toNat : Int) = e.held.toNat + 1 := by
        rw [UInt8.toNat_add]
        have e : ((1 : UInt8).toNat) = 1 := rfl
        omega
      rw [e2, ehb]
      have er' : num (List.replicate e.wait (255 + 1 : UInt8)) = 0 := by omega
      rw [er']
      have e3 : e.low / 16777216 % 256 * 4294967296 + e.low % 16777216 * 256 = (e.low - 4294967296) * 256 := by omega
      grind
  · rw [if_neg c]
    simp only [E.V, Int.pow_succ]
    generalize (256 : Int) ^ e.wait = W at p ⊢
    have e3 : e.low % 16777216 = e.low - 4278190080 := by omega
    rw [e3]
    grind

theorem shift_inv {e : E} (h : Inv e) (r : Int) (hr0 : 0 < r) (hr1 : r ≤ e.rng * 256) (hr2 : r < 4294967296) : Inv { e.shift with rng := r } := by
  obtain ⟨h1, h2, h3, h4⟩ := h
  have hl := shift_low e
  refine ⟨by simp only [hl]; omega, hr0, by simp only [hl]; omega, fun hh => ?_⟩
  simp only [hl]
  unfold E.shift at hh
  split at hh
  · rename_i c
    simp only at hh
    have := byteOf_toNat (e.low / 16777216)
    rcases c with c | c <;> omega
  · rename_i c
    have := h4 hh
    omega

structure Rep (e : E) (s : S) : Prop where
  inv : Inv e
  val : e.V = s.N
  rng : e.rng = s.R
  len : e.out.length + e.wait = s.k

theorem Rep.new : Rep E.new S.new := by
  refine ⟨⟨by decide, by decide, by decide, fun h => ?_⟩, by decide, rfl, rfl⟩
  cases h

theorem Rep.shift {e : E} {s : S} (h : Rep e s) (r : Int) (hr0 : 0 < r) (hr1 : r ≤ e.rng * 256) (hr2 : r < 4294967296) : Rep { e.shift with rng := r } ⟨s.N * 256, r, s.k + 1⟩ := by
  refine ⟨shift_inv h.inv r hr0 hr1 hr2, ?_, rfl, ?_⟩
  · have := shift_V h.inv
    rw [h.val] at this
    exact this
  · have := shift_len e
    rw [h.len] at this
    exact this

theorem Rep.bytes {e : E} {s : S} (h : Rep e s) (hr : e.rng < 4294967296) : e.shift.shift.shift.shift.shift.out = s.bytes ∧ e.shift.shift.shift.shift.shift.out.length = s.k + 5 := by
  have st : ∀ {e : E} {s : S}, Rep e s → e.rng < 4294967296 → Rep e.shift ⟨s.N * 256, e.rng, s.k + 1⟩ := by
    intro e s h hr
    have := h.shift e.rng h.inv.r0 (by have := h.inv.r0; omega) hr
    have e1 : { e.shift with rng := e.rng } = e.shift := by rw [← shift_rng e]
    rwa [e1] at this
  have h1 := st h hr
  have r1 := shift_rng e
  have h2 := st h1 (by rw [r1]; exact hr)
  have r2 := shift_rng e.shift
  have h3 := st h2 (by rw [r2, r1]; exact hr)
  have r3 := shift_rng e.shift.shift
  have h4 := st h3 (by rw [r3, r2, r1]; exact hr)
  have r4 := shift_rng e.shift.shift.shift
  have h5 := st h4 (by rw [r4, r3, r2, r1]; exact hr)
  have l0 := h.inv.l0
  have l1 := shift_low e
  have l2 := shift_low e.shift
  have l3 := shift_low e.shift.shift
  have l4 := shift_low e.shift.shift.shift
  have l4' : e.shift.shift.shift.shift.low = 0 := by omega
  have hv := h5.val
  have hl := h5.len
  generalize e.shift.shift.shift.shift = f at l4' hv hl ⊢
  have e5 : f.shift = ⟨0, f.rng, byteOf (f.low / 16777216), 0, f.shift.out⟩ := by
    unfold E.shift
    rw [if_pos (by omega), l4']
    rfl
  rw [e5] at hv hl
  simp only [E.V, Int.pow_zero, l4'] at hv hl
  have e6 : ((byteOf (0 / 16777216)).toNat : Int) = 0 := by rw [byteOf_toNat]; rfl
  rw [e6] at hv
  have hl5 : f.shift.out.length = s.k + 5 := by omega
  refine ⟨?_, hl5⟩
  unfold S.bytes
  exact digits_of hl5 (by omega)
end R
end Go.Proofs.YtbgnnjfpiblkmaaGreatDoor

namespace Go.Proofs.YtbgnnjfpiblkmaaGreatDoor
open Go
namespace R
theorem two_le {m n : Nat} (h : m ≤ n) : (2 : Int) ^ m ≤ 2 ^ n := by
  have := Nat.pow_le_pow_right (n := 2) (by omega) h
  have e : ∀ k : Nat, (2 : Int) ^ k = ((2 ^ k : Nat) : Int) := fun k => by norm_cast
  rw [e, e]; omega
structure TS where
  s : S
  l : List Int
def bitAt (back : Bool) (n : Nat) (v : Int) (k : Nat) : Int := v / 2 ^ (if back then k else n - 1 - k) % 2
def node (bs : Nat → Int) : Nat → Int
  | 0 => 1
  | k + 1 => 2 * node bs k + bs k
def TS.bit (a : TS) (i bit : Int) : TS := ⟨a.s.cut (B.bound a.s.R (a.l.getD i.toNat 0)) bit, a.l.set i.toNat (B.next (a.l.getD i.toNat 0) bit)⟩
def TS.put (a : TS) (at_ : Int) (bs : Nat → Int) : Nat → TS
  | 0 => a
  | k + 1 => (TS.put a at_ bs k).bit (at_ + node bs k) (bs k)
def costs (l : List Int) (at_ : Int) (bs : Nat → Int) : Nat → Int
  | 0 => 0
  | k + 1 => costs l at_ bs k + B.cost (l.getD (at_ + node bs k).toNat 0) (bs k)
def There (len : Nat) (at_ n : Int) : Prop := 0 ≤ n ∧ n ≤ 16 ∧ 0 ≤ at_ ∧ at_ ≤ len ∧ 2 ^ n.toNat ≤ len - at_
def Holds (v n : Int) : Prop := 0 ≤ v ∧ v < 2 ^ n.toNat
instance (len : Nat) (at_ n : Int) : Decidable (There len at_ n) := by unfold There; infer_instance
instance (v n : Int) : Decidable (Holds v n) := by unfold Holds; infer_instance

theorem bitAt_01 (back : Bool) (n : Nat) (v : Int) (k : Nat) : 0 ≤ bitAt back n v k ∧ bitAt back n v k ≤ 1 := by
  unfold bitAt; omega
theorem node_lo {bs : Nat → Int} (hb : ∀ k, 0 ≤ bs k ∧ bs k ≤ 1) : ∀ k : Nat, (2 : Int) ^ k ≤ node bs k ∧ node bs k < 2 ^ (k + 1)
  | 0 => by simp [node]
  | k + 1 => by
    have ⟨h1, h2⟩ := node_lo hb k
    have := hb k
    simp only [Int.pow_succ, node] at h2 ⊢
    generalize (2 : Int) ^ k = W at *
    omega
structure TS.Ok (a : TS) : Prop where
  s : R.Ok a.s
  f : B.Fine a.l
theorem TS.Ok.bit {a : TS} (h : a.Ok) {i : Int} (h0 : 0 ≤ i) (h1 : i < a.l.length) (bit : Int) : (a.bit i bit).Ok ∧ (a.bit i bit).s.k ≤ a.s.k + 3 := by
  have hx : a.l[i.toNat]? = some (a.l.getD i.toNat 0) := by
    rw [List.getD_eq_getElem?_getD, List.getElem?_eq_getElem (show i.toNat < a.l.length by omega)]; rfl
  have hp := h.f.get hx
  have c1 := B.bound_pos (rng := a.s.R) h.s.r0 hp.1
  have c2 := B.bound_lt (rng := a.s.R) (p := a.l.getD i.toNat 0) h.s.r0
  exact ⟨⟨h.s.cut _ _ c1 c2, h.f.set _ ⟨B.next_lo _ hp.1 hp.2, B.next_hi _ hp.1 hp.2⟩⟩, cut_k h.s _ _ c1 c2⟩
theorem TS.bit_len (a : TS) (i bit : Int) : (a.bit i bit).l.length = a.l.length := by simp [TS.bit]
theorem TS.put_len (a : TS) (at_ : Int) (bs : Nat → Int) : ∀ k, (a.put at_ bs k).l.length = a.l.length
  | 0 => rfl
  | k + 1 => by rw [TS.put, TS.bit_len, TS.put_len a at_ bs k]
theorem There.place {len : Nat} {at_ n : Int} (h : There len at_ n) {bs : Nat → Int} (hb : ∀ k, 0 ≤ bs k ∧ bs k ≤ 1) {k : Nat} (hk : k < n.toNat) : 0 ≤ at_ + node bs k ∧ at_ + node bs k < len ∧ at_ < at_ + node bs k := by
  obtain ⟨h1, h2, h3, h4, h5⟩ := h
  have ⟨i1, i2⟩ := node_lo hb k
  have p : (0 : Int) < 2 ^ k := Int.pow_pos (by omega)
  have : (2 : Int) ^ (k + 1) ≤ 2 ^ n.toNat := two_le (by omega)
  omega
theorem TS.Ok.put {a : TS} (h : a.Ok) {at_ n : Int} (ht : There a.l.length at_ n) {bs : Nat → Int} (hb : ∀ k, 0 ≤ bs k ∧ bs k ≤ 1) : ∀ k : Nat, k ≤ n.toNat → (a.put at_ bs k).Ok ∧ (a.put at_ bs k).s.k ≤ a.s.k + 3 * k
  | 0, _ => ⟨h, Nat.le_refl _⟩
  | k + 1, hk => by
    have ⟨i1, i2⟩ := TS.Ok.put h ht hb k (by omega)
    have hp := ht.place hb (k := k) (by omega)
    have hl := a.put_len at_ bs k
    have ⟨j1, j2⟩ := i1.bit (i := at_ + node bs k) hp.1 (by omega) (bs k)
    exact ⟨j1, by simp only [TS.put]; omega⟩
end R
end Go.Proofs.YtbgnnjfpiblkmaaGreatDoor

namespace Go.Proofs.YtbgnnjfpiblkmaaGreatDoor
open Go
namespace Z

structure PB where
  t : Nat
  i : Int
  b : Int
structure PB.Ok (p : Pr) (x : PB) : Prop where
  b : 0 ≤ x.b ∧ x.b ≤ 1
  t : x.t = 18 ∨ x.t < 18 ∧ 0 ≤ x.i ∧ x.i < tabLen p x.t

inductive Op
  | bit (t : Nat) (i b : Int)
  | tree (t : Nat) (at_ : Int) (n : Nat) (v : Int)
  | back (t : Nat) (at_ : Int) (n : Nat) (v : Int)
  | direct (v : Int) (n : Nat)
def treeBits (t : Nat) (at_ : Int) (bs : Nat → Int) (n : Nat) : List PB := (List.range n).map fun k => ⟨t, at_ + R.node bs k, bs k⟩
def Op.bits : Op → List PB
  | .bit t i b => [⟨t, i, b⟩]
  | .tree t a n v => treeBits t a (R.bitAt false n v) n
  | .back t a n v => treeBits t a (R.bitAt true n v) n
  | .direct v n => (List.range n).map fun k => ⟨18, 0, v / 2 ^ (n - 1 - k) % 2⟩
def Op.Ok (p : Pr) : Op → Prop
  | .bit t i b => t < 18 ∧ 0 ≤ i ∧ i < tabLen p t ∧ 0 ≤ b ∧ b ≤ 1
  | .tree t a n v => t < 18 ∧ R.There (tabLen p t) a n ∧ R.Holds v n
  | .back t a n v => t < 18 ∧ R.There (tabLen p t) a n ∧ R.Holds v n
  | .direct v n => 0 ≤ v ∧ v < 4294967296 ∧ n ≤ 32
def Op.wt : Op → Nat
  | .bit _ _ _ => 1
  | .tree _ _ n _ => n
  | .back _ _ n _ => n
  | .direct _ n => (n + 7) / 8
def wts (l : List Op) : Nat := (l.map Op.wt).sum

structure ES where
  s : R.S
  T : Nat → List Int
structure ES.Ok (p : Pr) (z : ES) : Prop where
  s : R.Ok z.s
  T : TabOk p z.T
def pr (T : Nat → List Int) (x : PB) : Int := (T x.t).getD x.i.toNat 0
def turn (T : Nat → List Int) (x : PB) : Nat → List Int := if x.t = 18 then T else upd T x.t ((T x.t).set x.i.toNat (B.next (pr T x) x.b))
def stepB (z : ES) (x : PB) : ES := ⟨if x.t = 18 then z.s.one x.b else z.s.cut (B.bound z.s.R (pr z.T x)) x.b, turn z.T x⟩
def run (z : ES) (l : List PB) : ES := l.foldl stepB z
def costB (T : Nat → List Int) (x : PB) : Int := if x.t = 18 then 16 else B.cost (pr T x) x.b
def costs (T : Nat → List Int) (l : List PB) : Int := (l.map (costB T)).sum
def runO (z : ES) (l : List Op) : ES := l.foldl (fun z o => run z o.bits) z
def costO (T : Nat → List Int) (l : List Op) : Int := (l.map fun o => costs T o.bits).sum
def allBits (l : List Op) : List PB := (l.map Op.bits).flatten

theorem wts_append (l m : List Op) : wts (l ++ m) = wts l + wts m := by simp [wts]

theorem upd_same {α : Type} (f : Nat → α) (i : Nat) : upd f i (f i) = f := by funext j; unfold upd; split <;> simp_all
theorem upd_upd {α : Type} (f : Nat → α) (i : Nat) (a b : α) : upd (upd f i a) i b = upd f i b := by funext j; unfold upd; split <;> rfl

theorem run_direct (v : Int) : ∀ (n : Nat) (z : ES), run z (Op.direct v n).bits = ⟨z.s.direct v n, z.T⟩
  | 0, z => rfl
  | n + 1, z => by
    have ih := run_direct v n (stepB z ⟨18, 0, v / 2 ^ n % 2⟩)
    have e : (Op.direct v (n + 1)).bits = ⟨18, 0, v / 2 ^ n % 2⟩ :: (Op.direct v n).bits := by
      simp only [Op.bits, List.range_succ_eq_map, List.map_cons, List.map_map]
      congr 1
      refine List.map_congr_left fun k hk => ?_
      simp only [Function.comp_apply, Nat.succ_eq_add_one]
      rw [show n + 1 - 1 - (k + 1) = n - 1 - k from by omega]
    rw [e]
    show run (stepB z _) _ = _
    rw [ih, R.S.direct]
    simp only [stepB, turn, if_true]
theorem step_ok {p : Pr} {z : ES} (h : z.Ok p) {x : PB} (hx : x.Ok p) : (stepB z x).Ok p ∧ (stepB z x).s.k ≤ z.s.k + 1 := by
  obtain ⟨hs, hT⟩ := h
  rcases hx.t with ht | ⟨ht, h0, h1⟩
  · simp only [stepB, turn, ht, if_true]
    exact ⟨⟨hs.one _, hT⟩, R.one_k hs _⟩
  · have hne : x.t ≠ 18 := by omega
    have hl := hT.len x.t ht
    have hx : (z.T x.t)[x.i.toNat]? = some (pr z.T x) := by
      rw [pr, List.getD_eq_getElem?_getD, List.getElem?_eq_getElem (show x.i.toNat < (z.T x.t).length by omega)]; rfl
    have hp := (hT.fine x.t).get hx
    simp only [stepB, turn, hne, if_false]
    have c1 := B.bound_pos (rng := z.s.R) hs.r0 hp.1
    have c2 := B.bound_lt (rng := z.s.R) (p := pr z.T x) hs.r0
    have hr0 := hs.r0
    have mid : 65536 ≤ B.bound z.s.R (pr z.T x) ∧ 65536 ≤ z.s.R - B.bound z.s.R (pr z.T x) := by
      unfold B.bound
      rw [B.taken_self (by omega) (by omega)]
      have a1 : z.s.R / 2048 * 31 ≤ z.s.R / 2048 * pr z.T x := Int.mul_le_mul_of_nonneg_left hp.1 (by omega)
      have a2 : z.s.R / 2048 * pr z.T x ≤ z.s.R / 2048 * 2017 := Int.mul_le_mul_of_nonneg_left hp.2 (by omega)
      omega
    refine ⟨⟨hs.cut _ _ c1 c2, fun i hi => ?_, fun i => ?_⟩, ?_⟩
    · show (upd z.T x.t _ i).length = _
      unfold upd
      split
      · rename_i e; rw [List.length_set, hl, e]
      · exact hT.len i hi
    · show B.Fine (upd z.T x.t _ i)
      unfold upd
      split
      · exact (hT.fine x.t).set _ ⟨B.next_lo _ hp.1 hp.2, B.next_hi _ hp.1 hp.2⟩
      · exact hT.fine i
    · unfold R.S.cut
      split
      · exact (R.widen_k _ _ rfl (by simp only; omega)).2 (by simp only; omega)
      · exact (R.widen_k _ _ rfl (by simp only; omega)).2 (by simp only; omega)
theorem run_ok {p : Pr} : ∀ {l : List PB} {z : ES}, z.Ok p → (∀ x ∈ l, x.Ok p) → (run z l).Ok p ∧ (run z l).s.k ≤ z.s.k + l.length
  | [], z, h, _ => ⟨h, Nat.le_refl _⟩
  | x :: l, z, h, hl => by
    have ⟨h1, h2⟩ := step_ok h (hl x List.mem_cons_self)
    have ⟨h3, h4⟩ := run_ok (l := l) h1 fun y hy => hl y (List.mem_cons_of_mem _ hy)
    refine ⟨h3, ?_⟩
    rw [List.length_cons]
    show (run (stepB z x) l).s.k ≤ _
    omega
theorem Op.Ok.bits {p : Pr} {o : Op} (h : o.Ok p) : ∀ x ∈ o.bits, x.Ok p := by
  have tb : ∀ (t n : Nat) (a : Int) (bs : Nat → Int), (∀ k, 0 ≤ bs k ∧ bs k ≤ 1) → t < 18 → R.There (tabLen p t) a n → ∀ x ∈ treeBits t a bs n, x.Ok p := by
    intro t n a bs hb ht hth x hx
    obtain ⟨k, hk, rfl⟩ := List.mem_map.1 hx
    have := hth.place hb (k := k) (by simpa using hk)
    exact ⟨hb k, .inr ⟨ht, this.1, this.2.1⟩⟩
  cases o with
  | bit t i b =>
    obtain ⟨h1, h2, h3, h4, h5⟩ := h
    intro x hx
    simp only [Op.bits, List.mem_singleton] at hx
    subst hx
    exact ⟨⟨h4, h5⟩, .inr ⟨h1, h2, h3⟩⟩
  | tree t a n v => exact tb t n a _ (R.bitAt_01 false n v) h.1 h.2.1
  | back t a n v => exact tb t n a _ (R.bitAt_01 true n v) h.1 h.2.1
  | direct v n =>
    intro x hx
    obtain ⟨k, hk, rfl⟩ := List.mem_map.1 hx
    exact ⟨by simp only; omega, .inl rfl⟩
theorem log2_half {n : Nat} (h : 2 ≤ n) : (n / 2).log2 + 1 = n.log2 := by
  have := Nat.log2_def n
  rw [this, if_pos h]
theorem log2_256 {n : Nat} (h : n ≠ 0) : (n * 256).log2 = n.log2 + 8 := by
  have e : (256 : Nat) = 2 ^ 8 := rfl
  rw [e]
  rw [Nat.log2_eq_iff (by omega)]
  have h1 := Nat.log2_self_le h
  have h2 := Nat.lt_log2_self (n := n)
  constructor
  · rw [Nat.pow_add]; exact Nat.mul_le_mul_right _ h1
  · rw [show n.log2 + 8 + 1 = n.log2 + 1 + 8 from by omega, Nat.pow_add]
    exact Nat.mul_lt_mul_of_pos_right h2 (by decide)
theorem one_phi {s : R.S} (h : R.Ok s) (b : Int) : 8 * (s.one b).k + s.R.toNat.log2 = 8 * s.k + (s.one b).R.toNat.log2 + 1 := by
  have r0 := h.r0
  have r1 := h.r1
  have key : ∀ N : Int, 8 * (R.S.widen ⟨N, s.R / 2, s.k⟩).k + s.R.toNat.log2 = 8 * s.k + (R.S.widen ⟨N, s.R / 2, s.k⟩).R.toNat.log2 + 1 := by
    intro N
    have e1 : (s.R / 2).toNat = s.R.toNat / 2 := by omega
    have h1 := log2_half (n := s.R.toNat) (by omega)
    by_cases hlt : s.R / 2 < 16777216
    · rw [R.S.widen_go (by simp only; omega) hlt, R.S.widen_no (by simp only; omega)]
      simp only
      have e2 : (s.R / 2 * 256).toNat = s.R.toNat / 2 * 256 := by omega
      have h2 := log2_256 (n := s.R.toNat / 2) (by omega)
      rw [e2]
      omega
    · rw [R.S.widen_no hlt]
      simp only
      rw [e1]
      omega
  unfold R.S.one
  split
  · exact key _
  · exact key _
theorem direct_phi (v : Int) : ∀ (n : Nat) {s : R.S}, R.Ok s → 8 * (s.direct v n).k + s.R.toNat.log2 = 8 * s.k + (s.direct v n).R.toNat.log2 + n
  | 0, s, _ => rfl
  | n + 1, s, h => by
    have h1 := one_phi h (v / 2 ^ n % 2)
    have h2 := direct_phi v n (h.one (v / 2 ^ n % 2))
    rw [R.S.direct]
    omega
theorem direct_k {s : R.S} (h : R.Ok s) (v : Int) (n : Nat) : (s.direct v n).k ≤ s.k + (n + 7) / 8 := by
  have h1 := direct_phi v n h
  have h2 := h.direct v n
  have a1 : s.R.toNat.log2 < 32 := (Nat.log2_lt (by have := h.r0; omega)).2 (by have := h.r1; omega)
  have a2 : 24 ≤ s.R.toNat.log2 := (Nat.le_log2 (by have := h.r0; omega)).2 (by have := h.r0; omega)
  have a3 : (s.direct v n).R.toNat.log2 < 32 := (Nat.log2_lt (by have := h2.r0; omega)).2 (by have := h2.r1; omega)
  omega
theorem op_ok {p : Pr} {z : ES} (h : z.Ok p) {o : Op} (ho : o.Ok p) : (run z o.bits).Ok p ∧ (run z o.bits).s.k ≤ z.s.k + o.wt := by
  have ⟨h1, h2⟩ := run_ok h ho.bits
  refine ⟨h1, ?_⟩
  cases o with
  | bit t i b => exact h2
  | tree t a n v => simpa [Op.bits, treeBits, Op.wt] using h2
  | back t a n v => simpa [Op.bits, treeBits, Op.wt] using h2
  | direct v n =>
    rw [run_direct]
    exact direct_k h.s v n
theorem ops_ok {p : Pr} : ∀ {l : List Op} {z : ES}, z.Ok p → (∀ o ∈ l, o.Ok p) → (runO z l).Ok p ∧ (runO z l).s.k ≤ z.s.k + wts l
  | [], z, h, _ => ⟨h, Nat.le_refl _⟩
  | o :: l, z, h, hl => by
    have ⟨h1, h2⟩ := op_ok h (hl o List.mem_cons_self)
    have ⟨h3, h4⟩ := ops_ok (l := l) h1 fun y hy => hl y (List.mem_cons_of_mem _ hy)
    refine ⟨h3, ?_⟩
    show (runO (run z o.bits) l).s.k ≤ _
    simp only [wts, List.map_cons, List.sum_cons] at h4 ⊢
    omega

def lens (l : List Op) : Nat := (l.map fun o => o.bits.length).sum

def litGo (from_ b t : Int) : Nat → Int → Bool → List Op
  | 0, _, _ => []
  | i + 1, m, same => .bit 6 (from_ + m + (if same then 256 * (1 + t / 2 ^ i % 2) else 0)) (b / 2 ^ i % 2) :: litGo from_ b t i (2 * m + b / 2 ^ i % 2) (same && decide (b / 2 ^ i % 2 = t / 2 ^ i % 2))
def lastOr (x : W) (d : Int) : UInt8 := if x.has d then x.last d.toNat else 0
def litOps (p : Pr) (s : St) (x : W) (b : UInt8) : List Op :=
  let f := context p x.all.length (lastOr x 1).toNat
  if s.num < 7 then [.tree 6 f 8 b.toNat] else litGo f b.toNat (lastOr x s.r0).toNat 8 1 true
def lenOps (c : Nat) (p : Pr) (pos : Int) (n : Int) : List Op :=
  let at_ := 8 * place p pos
  if n - 2 < 8 then [.bit c 0 0, .tree (c + 1) at_ 3 (n - 2)]
  else if n - 2 < 16 then [.bit c 0 1, .bit c 1 0, .tree (c + 2) at_ 3 (n - 2 - 8)]
  else [.bit c 0 1, .bit c 1 1, .tree (c + 3) 0 8 (n - 2 - 16)]
def distOps (n d : Int) : List Op :=
  let s := slot d
  let r := d - least s
  .tree 15 (64 * min (n - 2) 3) 6 s :: (if bitsN s = 0 then [] else if s < 14 then [.back 16 (restAt s) (bitsN s) r] else [.direct (r / 16) (bitsN s - 4), .back 17 0 4 (r % 16)])
def repOps (p : Pr) (s : St) (pos : Int) (d : Int) : List Op :=
  if d = 0 then [.bit 3 s.num 0, .bit 1 (s.num * 16 + place p pos) 1] else [.bit 3 s.num 1, .bit 4 s.num (min (d - 1) 1)] ++ (if 1 < d then [.bit 5 s.num (d - 2)] else [])
def symOps (p : Pr) (s : St) (x : W) (y : Y) : List Op :=
  let at_ := s.num * 16 + place p x.all.length
  if y.Kind = 1 then .bit 0 at_ 0 :: litOps p s x y.Byte
  else if y.Kind = 2 then [.bit 0 at_ 1, .bit 2 s.num 0] ++ lenOps 7 p x.all.length y.Len ++ distOps y.Len y.Dist
  else if y.Kind = 4 then [.bit 0 at_ 1, .bit 2 s.num 1, .bit 3 s.num 0, .bit 1 at_ 0]
  else [.bit 0 at_ 1, .bit 2 s.num 1] ++ repOps p s x.all.length y.Dist ++ lenOps 11 p x.all.length y.Len

end Z
end Go.Proofs.YtbgnnjfpiblkmaaGreatDoor

namespace Go.Proofs.YtbgnnjfpiblkmaaGreatDoor
open Go
namespace Z

theorem slot_small {d : Int} (h : d - 1 < 4) : slot d = d - 1 := by rw [slot, if_pos h]
theorem slot_law {d : Int} (hd : isDist d) : 0 ≤ slot d ∧ slot d ≤ 63 ∧ bitsN (slot d) ≤ 30 ∧ least (slot d) ≤ d ∧ d - least (slot d) < 2 ^ bitsN (slot d) := by
  obtain ⟨h1, h2⟩ := hd
  by_cases hs : d - 1 < 4
  · rw [slot_small hs]
    unfold bitsN least
    rw [if_pos (by omega), if_pos (by omega)]
    simp
    omega
  · obtain ⟨x, hx⟩ : ∃ x : Nat, d - 1 = x := ⟨(d - 1).toNat, by omega⟩
    have hx2 : (d - 1).toNat = x := by omega
    have hlt : x.log2 < 32 := (Nat.log2_lt (by omega)).2 (by omega)
    have hle : 2 ≤ x.log2 := (Nat.le_log2 (by omega)).2 (by omega)
    obtain ⟨n, hn⟩ : ∃ n, x.log2 = n + 1 := ⟨x.log2 - 1, by omega⟩
    have l1 := Nat.log2_self_le (n := x) (by omega)
    have l2 := Nat.lt_log2_self (n := x)
    rw [hn] at l1 l2
    have hp : 0 < 2 ^ n := Nat.two_pow_pos n
    rw [Nat.pow_succ] at l1 l2
    rw [Nat.pow_succ] at l2
    have q1 : 2 ≤ x / 2 ^ n := (Nat.le_div_iff_mul_le hp).2 (by omega)
    have q2 : x / 2 ^ n < 4 := (Nat.div_lt_iff_lt_mul hp).2 (by omega)
    have hm := Nat.div_add_mod x (2 ^ n)
    have hm2 := Nat.mod_lt x hp
    have es : slot d = 2 * (n + 1 : Nat) + ((x / 2 ^ n % 2 : Nat) : Int) := by
      rw [slot, if_neg hs, hx2, hn, hx]
      simp only [Nat.add_sub_cancel]
      push_cast
      rfl
    have e1 : slot d / 2 = (n + 1 : Nat) := by omega
    have e2 : slot d % 2 = ((x / 2 ^ n % 2 : Nat) : Int) := by omega
    have eb : bitsN (slot d) = n := by
      unfold bitsN
      rw [if_neg (by omega), e1]; omega
    have el : least (slot d) = ((2 ^ n * (x / 2 ^ n) : Nat) : Int) + 1 := by
      unfold least
      rw [if_neg (by omega), e1, e2]
      have e3 : (((n + 1 : Nat) : Int) - 1).toNat = n := by omega
      have e4 : 2 + x / 2 ^ n % 2 = x / 2 ^ n := by omega
      rw [e3]
      have e5 : (2 : Int) + ((x / 2 ^ n % 2 : Nat) : Int) = ((x / 2 ^ n : Nat) : Int) := by omega
      rw [e5, Int.mul_comm]
      push_cast
      rfl
    have ep : ((2 : Int) ^ n) = ((2 ^ n : Nat) : Int) := by push_cast; rfl
    rw [eb, el, ep]
    omega
theorem rest_law (s : Int) (h0 : 4 ≤ s) (h1 : s ≤ 13) : 0 ≤ restAt s ∧ restAt s + 2 ^ bitsN s ≤ 128 ∧ bitsN s ≤ 5 ∧ 1 ≤ bitsN s := by
  have h4 : s = 4 ∨ s = 5 ∨ s = 6 ∨ s = 7 ∨ s = 8 ∨ s = 9 ∨ s = 10 ∨ s = 11 ∨ s = 12 ∨ s = 13 := by omega
  rcases h4 with rfl | rfl | rfl | rfl | rfl | rfl | rfl | rfl | rfl | rfl <;> decide
theorem late_bits {s : Int} (h0 : 14 ≤ s) : 6 ≤ bitsN s := by
  unfold bitsN; rw [if_neg (by omega)]; omega
theorem bits_0 {s : Int} (h : 0 ≤ s) : bitsN s = 0 ↔ s < 4 := by
  unfold bitsN
  by_cases h4 : s < 4
  · simp [h4]
  · rw [if_neg h4]; omega

theorem litGo_ok {p : Pr} {f b t : Int} (hf : 0 ≤ f ∧ f + 768 ≤ tabLen p 6) : ∀ (i : Nat) (m : Int) (same : Bool), i ≤ 8 → 1 ≤ m → m < 2 ^ (9 - i) → ∀ o ∈ litGo f b t i m same, o.Ok p
  | 0, _, _, _, _, _, _, h => by cases h
  | i + 1, m, same, hi, h1, h2, o, h => by
    have e : 9 - i = (9 - (i + 1)) + 1 := by omega
    have hm : m < 256 := by
      have : (2 : Int) ^ (9 - (i + 1)) ≤ 2 ^ 8 := two_le' (by omega)
      have e8 : (2 : Int) ^ 8 = 256 := by decide
      omega
    simp only [litGo, List.mem_cons] at h
    rcases h with rfl | h
    · refine ⟨by decide, ?_, ?_, by omega, by omega⟩
      · split <;> omega
      · split <;> omega
    · refine litGo_ok hf i _ _ (by omega) (by omega) ?_ o h
      rw [e, Int.pow_succ]
      omega
theorem litGo_len (f b t : Int) : ∀ (i : Nat) (m : Int) (same : Bool), wts (litGo f b t i m same) = i ∧ lens (litGo f b t i m same) = i ∧ (litGo f b t i m same).length = i
  | 0, _, _ => ⟨rfl, rfl, rfl⟩
  | i + 1, m, same => by
    have ⟨h1, h2, h3⟩ := litGo_len f b t i (2 * m + b / 2 ^ i % 2) (same && decide (b / 2 ^ i % 2 = t / 2 ^ i % 2))
    simp only [wts, lens, litGo, List.map_cons, List.sum_cons, Op.wt, Op.bits, List.length_cons, List.length_nil] at h1 h2 h3 ⊢
    omega
structure OpsOk (p : Pr) (l : List Op) (n : Nat) : Prop where
  ok : ∀ o ∈ l, o.Ok p
  wt : wts l ≤ n
theorem OpsOk.append {p : Pr} {l m : List Op} {a b : Nat} (h1 : OpsOk p l a) (h2 : OpsOk p m b) : OpsOk p (l ++ m) (a + b) :=
  ⟨fun o ho => (List.mem_append.1 ho).elim (h1.ok o) (h2.ok o), by rw [wts_append]; have := h1.wt; have := h2.wt; omega⟩
theorem OpsOk.mono {p : Pr} {l : List Op} {a b : Nat} (h : OpsOk p l a) (hab : a ≤ b) : OpsOk p l b := ⟨h.ok, Nat.le_trans h.wt hab⟩
theorem OpsOk.nil {p : Pr} : OpsOk p [] 0 := ⟨fun _ h => (by cases h), Nat.le_refl _⟩
theorem OpsOk.cons {p : Pr} {o : Op} {l : List Op} {a : Nat} (h1 : o.Ok p) (h2 : OpsOk p l a) : OpsOk p (o :: l) (o.wt + a) :=
  ⟨fun x hx => (List.mem_cons.1 hx).elim (fun e => e ▸ h1) (h2.ok x), by simp only [wts, List.map_cons, List.sum_cons]; have := h2.wt; unfold wts at this; omega⟩

theorem litOps_ok {p : Pr} (hp : p.Ok) {s : St} {x : W} (b : UInt8) : OpsOk p (litOps p s x b) 8 := by
  have hl := (lastOr x 1).toNat_lt
  have hb := b.toNat_lt
  have hc := context_bd hp x.all.length (lastOr x 1).toNat (by omega) (by omega)
  unfold litOps
  dsimp only
  split
  · refine ⟨fun o ho => ?_, Nat.le_refl _⟩
    simp only [List.mem_singleton] at ho
    subst ho
    have e8 : (2 : Int) ^ (8 : Int).toNat = 256 := by decide
    refine ⟨by decide, ⟨by omega, by omega, hc.1, by omega, ?_⟩, by omega, ?_⟩
    · show (2 : Int) ^ (8 : Int).toNat ≤ _
      omega
    · show _ < (2 : Int) ^ (8 : Int).toNat
      omega
  · exact ⟨litGo_ok hc 8 1 true (by omega) (by omega) (by decide), (litGo_len _ _ _ _ _ _).1 ▸ Nat.le_refl _⟩
theorem tab_c (p : Pr) (c : Nat) (hc : c = 7 ∨ c = 11) : tabLen p c = 2 ∧ tabLen p (c + 1) = 128 ∧ tabLen p (c + 2) = 128 ∧ tabLen p (c + 3) = 256 := by
  rcases hc with rfl | rfl <;> exact ⟨rfl, rfl, rfl, rfl⟩
theorem lenOps_ok {p : Pr} (hp : p.Ok) (c : Nat) (hc : c = 7 ∨ c = 11) (pos : Int) {n : Int} (hn : isLen n) : OpsOk p (lenOps c p pos n) 10 := by
  obtain ⟨t0, t1, t2, t3⟩ := tab_c p c hc
  obtain ⟨n1, n2⟩ := hn
  have hpl := place_bd hp pos
  have e3 : (2 : Int) ^ (3 : Int).toNat = 8 := by decide
  have e8 : (2 : Int) ^ (8 : Int).toNat = 256 := by decide
  have b0 : ∀ i b : Int, 0 ≤ i → i < 2 → 0 ≤ b → b ≤ 1 → (Op.bit c i b).Ok p := fun i b h1 h2 h3 h4 => ⟨by omega, h1, by omega, h3, h4⟩
  unfold lenOps
  dsimp only
  split
  · refine ((OpsOk.nil.cons (o := .tree (c + 1) _ 3 _) ?_).cons (b0 0 0 (by omega) (by omega) (by omega) (by omega))).mono (Nat.le_of_ble_eq_true rfl)
    refine ⟨by omega, ⟨by omega, by omega, by omega, by omega, ?_⟩, by omega, ?_⟩
    · show (2 : Int) ^ (3 : Int).toNat ≤ _
      omega
    · show _ < (2 : Int) ^ (3 : Int).toNat
      omega
  · split
    · refine (((OpsOk.nil.cons (o := .tree (c + 2) _ 3 _) ?_).cons (b0 1 0 (by omega) (by omega) (by omega) (by omega))).cons (b0 0 1 (by omega) (by omega) (by omega) (by omega))).mono (Nat.le_of_ble_eq_true rfl)
      refine ⟨by omega, ⟨by omega, by omega, by omega, by omega, ?_⟩, by omega, ?_⟩
      · show (2 : Int) ^ (3 : Int).toNat ≤ _
        omega
      · show _ < (2 : Int) ^ (3 : Int).toNat
        omega
    · refine (((OpsOk.nil.cons (o := .tree (c + 3) 0 8 _) ?_).cons (b0 1 1 (by omega) (by omega) (by omega) (by omega))).cons (b0 0 1 (by omega) (by omega) (by omega) (by omega))).mono (Nat.le_of_ble_eq_true rfl)
      refine ⟨by omega, ⟨by omega, by omega, by omega, by omega, ?_⟩, by omega, ?_⟩
      · show (2 : Int) ^ (8 : Int).toNat ≤ _
        omega
      · show _ < (2 : Int) ^ (8 : Int).toNat
        omega
theorem distOps_ok (p : Pr) {n d : Int} (hn : isLen n) (hd : isDist d) : OpsOk p (distOps n d) 14 := by
  obtain ⟨s0, s1, sb, s2, s3⟩ := slot_law hd
  obtain ⟨n1, n2⟩ := hn
  have e6 : (2 : Int) ^ (6 : Int).toNat = 64 := by decide
  have e4 : (2 : Int) ^ (4 : Int).toNat = 16 := by decide
  have t15 : tabLen p 15 = 256 := rfl
  have t16 : tabLen p 16 = 128 := rfl
  have t17 : tabLen p 17 = 16 := rfl
  unfold distOps
  dsimp only
  have h0 : (Op.tree 15 (64 * min (n - 2) 3) 6 (slot d)).Ok p := by
    refine ⟨by decide, ⟨by omega, by omega, by omega, by omega, ?_⟩, s0, ?_⟩
    · show (2 : Int) ^ (6 : Int).toNat ≤ _
      omega
    · show _ < (2 : Int) ^ (6 : Int).toNat
      omega
  split
  · exact (OpsOk.nil.cons h0).mono (Nat.le_of_ble_eq_true rfl)
  · rename_i hb
    rw [bits_0 s0] at hb
    split
    · have hr := rest_law (slot d) (by omega) (by omega)
      refine ((OpsOk.nil.cons (o := .back 16 _ _ _) ?_).cons h0).mono (by show 6 + (bitsN (slot d) + 0) ≤ 14; omega)
      refine ⟨by decide, ⟨by omega, by omega, hr.1, by omega, ?_⟩, by omega, ?_⟩
      · rw [Int.toNat_natCast]; omega
      · rw [Int.toNat_natCast]; exact s3
    · have hb6 := late_bits (s := slot d) (by omega)
      refine (((OpsOk.nil.cons (o := .back 17 0 4 _) ?_).cons (o := .direct _ _) ?_).cons h0).mono (by show 6 + ((bitsN (slot d) - 4 + 7) / 8 + (4 + 0)) ≤ 14; omega)
      · refine ⟨by decide, ⟨by omega, by omega, by omega, by omega, ?_⟩, by omega, ?_⟩
        · show (2 : Int) ^ (4 : Int).toNat ≤ _
          omega
        · show _ < (2 : Int) ^ (4 : Int).toNat
          omega
      · have : (2 : Int) ^ bitsN (slot d) ≤ 2 ^ 30 := two_le' sb
        have e30 : (2 : Int) ^ 30 = 1073741824 := by decide
        exact ⟨by omega, by omega, by omega⟩
theorem repOps_ok {p : Pr} (hp : p.Ok) {s : St} (hs : s.Right) (pos : Int) {d : Int} (h0 : 0 ≤ d) (h1 : d ≤ 3) : OpsOk p (repOps p s pos d) 3 := by
  have hn := hs.num
  have hpl := place_bd hp pos
  have t1 : tabLen p 1 = 192 := rfl
  have t3 : tabLen p 3 = 12 := rfl
  have t4 : tabLen p 4 = 12 := rfl
  have t5 : tabLen p 5 = 12 := rfl
  unfold repOps
  split
  · exact ((OpsOk.nil.cons (o := .bit 1 _ 1) ⟨by decide, by omega, by omega, by omega, by omega⟩).cons (o := .bit 3 _ 0) ⟨by decide, by omega, by omega, by omega, by omega⟩).mono (Nat.le_of_ble_eq_true rfl)
  · refine (((OpsOk.nil.cons (o := .bit 4 _ _) ⟨by decide, by omega, by omega, by omega, by omega⟩).cons (o := .bit 3 _ 1) ⟨by decide, by omega, by omega, by omega, by omega⟩).append (b := 1) ?_).mono (Nat.le_of_ble_eq_true rfl)
    split
    · exact (OpsOk.nil.cons (o := .bit 5 _ _) ⟨by decide, by omega, by omega, by omega, by omega⟩).mono (Nat.le_of_ble_eq_true rfl)
    · exact OpsOk.nil.mono (Nat.le_of_ble_eq_true rfl)
theorem symOps_ok {p : Pr} (hp : p.Ok) {s : St} (hs : s.Right) (x : W) {y : Y} (hy : errY y = 0) : OpsOk p (symOps p s x y) 26 := by
  have hn := hs.num
  have hpl := place_bd hp x.all.length
  have t0 : tabLen p 0 = 192 := rfl
  have t1 : tabLen p 1 = 192 := rfl
  have t2 : tabLen p 2 = 12 := rfl
  have t3 : tabLen p 3 = 12 := rfl
  have h0 : ∀ b : Int, 0 ≤ b → b ≤ 1 → (Op.bit 0 (s.num * 16 + place p x.all.length) b).Ok p := fun b h1 h2 => ⟨by decide, by omega, by omega, h1, h2⟩
  have h2 : ∀ b : Int, 0 ≤ b → b ≤ 1 → (Op.bit 2 s.num b).Ok p := fun b h1 h2 => ⟨by decide, by omega, by omega, h1, h2⟩
  unfold symOps
  dsimp only
  split
  · exact ((litOps_ok hp _).cons (h0 0 (by omega) (by omega))).mono (Nat.le_of_ble_eq_true rfl)
  · split
    · rename_i hk
      have hl := err_len hy (.inl hk)
      have hd : isDist y.Dist := by
        unfold errY at hy
        rw [if_neg (by omega), if_pos hk] at hy
        by_cases hc : isLen y.Len ∧ isDist y.Dist
        · exact hc.2
        · rw [if_neg hc] at hy; omega
      exact ((((OpsOk.nil.cons (h2 0 (by omega) (by omega))).cons (h0 1 (by omega) (by omega))).append (lenOps_ok hp 7 (.inl rfl) _ hl)).append (distOps_ok p hl hd)).mono (Nat.le_of_ble_eq_true rfl)
    · split
      · exact ((((OpsOk.nil.cons (o := .bit 1 _ 0) ⟨by decide, by omega, by omega, by omega, by omega⟩).cons (o := .bit 3 _ 0) ⟨by decide, by omega, by omega, by omega, by omega⟩).cons (h2 1 (by omega) (by omega))).cons (h0 1 (by omega) (by omega))).mono (Nat.le_of_ble_eq_true rfl)
      · have hk : y.Kind = 3 := by have := kinds hy; omega
        have hl := err_len hy (.inr hk)
        have hd := err_rep hy hk
        exact ((((OpsOk.nil.cons (h2 1 (by omega) (by omega))).cons (h0 1 (by omega) (by omega))).append (repOps_ok hp hs _ hd.1 hd.2)).append (lenOps_ok hp 11 (.inr rfl) _ hl)).mono (Nat.le_of_ble_eq_true rfl)
end Z
end Go.Proofs.YtbgnnjfpiblkmaaGreatDoor

namespace Go.Proofs.YtbgnnjfpiblkmaaGreatDoor
open Go
set_option maxRecDepth 100000

def rcdec_New.H : Hints := { cut := fun  | _ => none, loop := fun | 5 => ([18], 68719214656) | _ => ([], 0), order := fun | 9 => [(0, 0), (1, 1), (2, 3), (3, 7), (4, 15), (5, 31), (6, 63), (7, 127), (8, 255), (9, 511), (10, 1023), (11, 2047), (12, 4095), (13, 8191), (14, 16383), (15, 32767), (16, 65535)] | _ => [] }
def rcdec_New.F [Pan] (x0 : Value) (w : World) (Q : Value → World → Prop) : Prop :=
 pN Tryz.prog (oBi .len #[30] 3 [false] [x0]) w fun x8 w1 =>
 pN Tryz.prog (oBin .lss 3 (.tmp 8) (.const (.int .i64 5)) x8 (.int .i64 5)) w1 fun x9 w2 =>
 pIf x9
 (Q (.tuple #[(.pointer none), (.int .i64 1)]) w2)
 (pN Tryz.prog (oBi .append #[30, 30] 30 [true, false] [(.slice none 0 0), x0]) w2 fun x11 w3 =>
 pN Tryz.prog (oBuild 224 [(0, (.int .i64 5)), (1, (.int .u32 4294967295))]) w3 fun x12 w4 =>
 pN Tryz.prog (oBuild 226 [(0, x11), (1, x12)]) w4 fun x13 w5 =>
 pN Tryz.prog (oBox 226 x13) w5 fun x14 w6 =>
 pN Tryz.prog (oSl 30 x0 (some (.int .i64 1)) (some (.int .i64 5)) none) w6 fun x16 w7 =>
 pN Tryz.prog (oBi .len #[30] 3 [false] [x16]) w7 fun x17 w8 =>
 ∃ (L5 : Value → World → Prop) (m5 : Value → World → Nat),
 L5 (.int .i64 0) w8 ∧
 ∀ (_k5 : Env) (v18l5 : Value) (w9 : World), L5 v18l5 w9 →
 pN Tryz.prog (oBin .lss 3 (.tmp 18) (.tmp 17) v18l5 x17) w9 fun x19 w10 =>
 pIf x19
 (pN Tryz.prog (oIdx 30 x16 v18l5) w10 fun x20 w11 =>
 pN Tryz.prog (oLoad 5 x20) w11 fun x21 w12 =>
 pN Tryz.prog (oNil x14) w12 fun x24 w13 =>
 pN Tryz.prog (oFld 226 x24 1) w13 fun x25 w14 =>
 pN Tryz.prog (oFld 224 x25 2) w14 fun x26 w15 =>
 pN Tryz.prog (oLoad 148 x26) w15 fun x27 w16 =>
 pN Tryz.prog (oBin .shl 148 (.tmp 27) (.const (.int .u64 8)) x27 (.int .u64 8)) w16 fun x28 w17 =>
 pN Tryz.prog (oConv 5 148 x21) w17 fun x30 w18 =>
 pN Tryz.prog (oBin .or 148 (.tmp 28) (.tmp 30) x28 x30) w18 fun x31 w19 =>
 pN Tryz.prog (oNil x14) w19 fun x32 w20 =>
 pN Tryz.prog (oFld 226 x32 1) w20 fun x33 w21 =>
 pN Tryz.prog (oFld 224 x33 2) w21 fun x34 w22 =>
 pN Tryz.prog (oStore 148 x34 x31) w22 fun _ w23 =>
 pN Tryz.prog (oBin .add 3 (.tmp 18) (.const (.int .i64 1)) v18l5 (.int .i64 1)) w23 fun x35 w24 =>
 (L5 x35 w24 ∧ m5 x35 w24 < m5 v18l5 w9))
 (pDr w10 fun w25 =>
 pA Tryz.prog (oIdx 30 x0 (.int .i64 0)) fun x37 =>
 pL Tryz.prog (oLoad 5 x37) w25 fun x38 =>
 pA Tryz.prog (oBin .neq 5 (.tmp 38) (.const (.int .u8 0)) x38 (bv 0)) fun x39 =>
 gA (gB x39 false) (pA Tryz.prog (oMv x14)) fun x41 =>
 gA (gB x39 false) (pA Tryz.prog (oNil x41)) fun x42 =>
 gA (gB x39 false) (pA Tryz.prog (oFld 226 x42 1)) fun x43 =>
 gA (gB x39 false) (pA Tryz.prog (oFld 224 x43 2)) fun x44 =>
 gA (gB x39 false) (pL Tryz.prog (oLoad 148 x44) w25) fun x45 =>
 gA (gB x39 false) (pA Tryz.prog (oMv x14)) fun x46 =>
 gA (gB x39 false) (pA Tryz.prog (oNil x46)) fun x47 =>
 gA (gB x39 false) (pA Tryz.prog (oFld 226 x47 1)) fun x48 =>
 gA (gB x39 false) (pA Tryz.prog (oFld 224 x48 1)) fun x49 =>
 gA (gB x39 false) (pL Tryz.prog (oLoad 148 x49) w25) fun x50 =>
 gA (gB x39 false) (pA Tryz.prog (oBin .eql 148 (.tmp 45) (.tmp 50) x45 x50)) fun x51 =>
 pA Tryz.prog (oPick x39 (.bool true) x51) fun x52 =>
 pIf x52
 (Q (.tuple #[(.pointer none), (.int .i64 2)]) w25)
 (Q (.tuple #[x14, (.int .i64 0)]) w25)))
theorem rcdec_New.calls [Pan] {x0 : Value} {w : World} {Q : Value → World → Prop} (h : rcdec_New.F x0 w Q) : Calls Tryz.prog 87 #[x0] w (retP Q) := calls_lift mixed rcdec_New.H [x0] Tryz.func87 (by kernel_rfl) (by kernel_rfl) h

def rcdec_Decoder_Done.H : Hints := { cut := fun  | _ => none, loop := fun  | _ => ([], 0), order := fun | 1 => [(0, 0), (1, 1), (2, 3), (3, 7), (4, 15), (5, 31), (6, 63), (7, 127), (8, 255), (9, 511), (10, 1023), (11, 2047), (12, 4095), (13, 8191), (14, 16383), (15, 32767), (16, 65535), (17, 131071), (18, 262143), (19, 524287)] | _ => [] }
def rcdec_Decoder_Done.F [Pan] (x0 : Value) (w : World) (Q : Value → World → Prop) : Prop :=
 pDr w fun w1 =>
 pA Tryz.prog (oNil x0) fun x4 =>
 pA Tryz.prog (oFld 226 x4 1) fun x5 =>
 pA Tryz.prog (oFld 224 x5 0) fun x6 =>
 pL Tryz.prog (oLoad 3 x6) w1 fun x7 =>
 pA Tryz.prog (oNil x0) fun x9 =>
 pA Tryz.prog (oFld 226 x9 0) fun x10 =>
 pL Tryz.prog (oLoad 30 x10) w1 fun x11 =>
 pA Tryz.prog (oBi .len #[30] 3 [false] [x11]) fun x12 =>
 pA Tryz.prog (oBin .eql 3 (.tmp 7) (.tmp 12) x7 x12) fun x13 =>
 gA (gB x13 true) (pA Tryz.prog (oMv x0)) fun x15 =>
 gA (gB x13 true) (pA Tryz.prog (oNil x15)) fun x16 =>
 gA (gB x13 true) (pA Tryz.prog (oFld 226 x16 1)) fun x17 =>
 gA (gB x13 true) (pA Tryz.prog (oFld 224 x17 2)) fun x18 =>
 gA (gB x13 true) (pL Tryz.prog (oLoad 148 x18) w1) fun x19 =>
 gA (gB x13 true) (pA Tryz.prog (oBin .eql 148 (.tmp 19) (.const (.int .u32 0)) x19 (.int .u32 0))) fun x20 =>
 pA Tryz.prog (oPick x13 x20 (.bool false)) fun x21 =>
 Q x21 w1
theorem rcdec_Decoder_Done.calls [Pan] {x0 : Value} {w : World} {Q : Value → World → Prop} (h : rcdec_Decoder_Done.F x0 w Q) : Calls Tryz.prog 90 #[x0] w (retP Q) := calls_lift mixed rcdec_Decoder_Done.H [x0] Tryz.func90 (by kernel_rfl) (by kernel_rfl) h

def rcdec_Decoder_Bit.H : Hints := { cut := fun | 7 => some ([], 4286578688) | _ => none, loop := fun  | _ => ([], 0), order := fun | 3 => [(0, 0), (1, 1), (2, 3)] | 5 => [(0, 0), (1, 1), (2, 3), (3, 7), (4, 15), (5, 31), (6, 63), (7, 127), (8, 255)] | _ => [] }
noncomputable def rcdec_Decoder_Bit.c : Code := match Tryz.f163.body with | some c => c | none => .skip
def rcdec_Decoder_Bit.F [Pan] (x0 : Value) (x1 : Value) (x2 : Value) (w : World) (Q : Value → World → Prop) : Prop :=
 pN Tryz.prog (oBox 76 x0) w fun x3 w1 =>
 pN Tryz.prog (oBox 137 x1) w1 fun x4 w2 =>
 pN Tryz.prog (oBox 3 x2) w2 fun x5 w3 =>
 pN Tryz.prog (oAlloc 3) w3 fun x6 w4 =>
 pN Tryz.prog (oAlloc 38) w4 fun x7 w5 =>
 pN Tryz.prog (oLoad 137 x4) w5 fun x10 w6 =>
 pN Tryz.prog (oLoad 3 x5) w6 fun x11 w7 =>
 pN Tryz.prog (oCall 179 [x10, x11]) w7 fun x12 w8 =>
 pN Tryz.prog (oExt x12 0) w8 fun x13 w9 =>
 pN Tryz.prog (oExt x12 1) w9 fun x14 w10 =>
 pN Tryz.prog (oStore 38 x7 x14) w10 fun _ w11 =>
 pN Tryz.prog (oLoad 38 x7) w11 fun x15 w12 =>
 pN Tryz.prog (oBin .neq 38 (.tmp 15) (.const (.int .i64 0)) x15 (.int .i64 0)) w12 fun x16 w13 =>
 pIf x16
 (pDr w13 fun w14 =>
 pL Tryz.prog (oLoad 38 x7) w14 fun x17 =>
 pN Tryz.prog (oStore 3 x6 (.int .i64 0)) w14 fun _ w15 =>
 ((Sem.run Tryz.prog (oLoad 38 x7) w15 = .ok (.value x17) w15) ∧ True) ∧ (pN Tryz.prog (oStore 38 x7 x17) w15 fun _ w16 =>
 (True) ∧ (pL Tryz.prog (oRes 3 x6) w16 fun r6 =>
 pL Tryz.prog (oRes 38 x7) w16 fun r7 =>
 Q (.tuple #[r6, r7]) w16)))
 (pN Tryz.prog (oFn (.func 180) [] [x3, x7, x6, x4, x5]) w13 fun x18 w17 =>
 pN Tryz.prog (oLoad 76 x3) w17 fun x19 w18 =>
 pN Tryz.prog (oNil x19) w18 fun x20 w19 =>
 pN Tryz.prog (oFld 226 x20 1) w19 fun x21 w20 =>
 pN Tryz.prog (oLoad 224 x21) w20 fun x22 w21 =>
 pDf Tryz.prog (oDf x18 [x22]) w21 fun d =>
 ∃ Z : Pan, (∀ (ch : List PanicEntry) (w22 : World), Z.z ch w22 → dE Tryz.prog d (.panicking ch) w22 fun w23 =>
 pL Tryz.prog (oRes 3 x6) w23 fun r6 =>
 pL Tryz.prog (oRes 38 x7) w23 fun r7 =>
 Q (.tuple #[r6, r7]) w23) ∧
 (∃ I7 : World → Prop,
 (pDr w21 fun w24 =>
 pL Tryz.prog (oLoad 76 x3) w24 fun x23 =>
 pL Tryz.prog (oLoad 76 x3) w24 fun x24 =>
 pA Tryz.prog (oNil x24) fun x25 =>
 pA Tryz.prog (oFld 226 x25 1) fun x26 =>
 pA Tryz.prog (oFld 224 x26 1) fun x27 =>
 pL Tryz.prog (oLoad 148 x27) w24 fun x28 =>
 pN Tryz.prog (oCall 184 [x28, x13]) w24 fun x30 w25 =>
 ((Sem.run Tryz.prog (oLoad 76 x3) w25 = .ok (.value x23) w25) ∧ True) ∧ (pN Tryz.prog (oCall 183 [x23, x30]) w25 fun x31 w26 =>
 (True) ∧ (pIf x31
 (pN Tryz.prog (oStore 3 x6 (.int .i64 1)) w26 fun _ w27 =>
 I7 w27)
 (I7 w26)))) ∧
 ∀ (_j7 : Env) (w28 : World), I7 w28 →
 pN Tryz.prog (oLoad 76 x3) w28 fun x32 w29 =>
 pN Tryz.prog (oCall 185 [x32]) w29 fun _ w30 =>
 pN Tryz.prog (oLoad 3 x6) w30 fun x34 w31 =>
 pN Tryz.prog (oStore 3 x6 x34) w31 fun _ w32 =>
 pN Tryz.prog (oStore 38 x7 (.int .i64 0)) w32 fun _ w33 =>
 dE Tryz.prog d .returning w33 fun w34 =>
 pL Tryz.prog (oRes 3 x6) w34 fun r6 =>
 pL Tryz.prog (oRes 38 x7) w34 fun r7 =>
 Q (.tuple #[r6, r7]) w34))
theorem rcdec_Decoder_Bit.eq [Pan] (x0 : Value) (x1 : Value) (x2 : Value) (w : World) (Q : Value → World → Prop) : cwD Tryz.prog rcdec_Decoder_Bit.H Tryz.f163.results.toList Q rcdec_Decoder_Bit.c (argsE [x0, x1, x2]) w = rcdec_Decoder_Bit.F x0 x1 x2 w Q := by kernel_rfl
theorem rcdec_Decoder_Bit.calls [Pan] {x0 : Value} {x1 : Value} {x2 : Value} {w : World} {Q : Value → World → Prop} (h : rcdec_Decoder_Bit.F x0 x1 x2 w Q) : Calls Tryz.prog 163 #[x0, x1, x2] w (retP Q) :=
  calls_of_cwD (H := rcdec_Decoder_Bit.H) (c := rcdec_Decoder_Bit.c) (args := [x0, x1, x2]) mixed 8 Tryz.func163 (by kernel_rfl) (by kernel_rfl) (by kernel_rfl) (Nat.le_of_ble_eq_true (by kernel_rfl)) ((rcdec_Decoder_Bit.eq x0 x1 x2 w Q).mpr h)

def rcdec_Decoder_Direct.H : Hints := { cut := fun | 11 => some ([], 281474439839744) | 13 => some ([], 71776119061217280) | 15 => some ([], 9223372036852678720) | _ => none, loop := fun | 5 => ([19], 18446744073709027392) | _ => ([], 0), order := fun  | _ => [] }
noncomputable def rcdec_Decoder_Direct.c : Code := match Tryz.f166.body with | some c => c | none => .skip
def rcdec_Decoder_Direct.F [Pan] (x0 : Value) (x1 : Value) (w : World) (Q : Value → World → Prop) : Prop :=
 pN Tryz.prog (oBox 76 x0) w fun x2 w1 =>
 pN Tryz.prog (oAlloc 148) w1 fun x4 w2 =>
 pN Tryz.prog (oAlloc 38) w2 fun x5 w3 =>
 pN Tryz.prog (oBin .lss 3 (.tmp 7) (.const (.int .i64 0)) x1 (.int .i64 0)) w3 fun x8 w4 =>
 pGd (gB x8 false) (pN Tryz.prog (oMv x1) w4) w4 fun x10 w5 =>
 pGd (gB x8 false) (pN Tryz.prog (oBin .gtr 3 (.tmp 10) (.const (.int .i64 32)) x10 (.int .i64 32)) w5) w5 fun x11 w6 =>
 pN Tryz.prog (oPick x8 (.bool true) x11) w6 fun x12 w7 =>
 pIf x12
 (pN Tryz.prog (oStore 148 x4 (.int .u32 0)) w7 fun _ w8 =>
 pN Tryz.prog (oStore 38 x5 (.int .i64 7)) w8 fun _ w9 =>
 pL Tryz.prog (oRes 148 x4) w9 fun r4 =>
 pL Tryz.prog (oRes 38 x5) w9 fun r5 =>
 Q (.tuple #[r4, r5]) w9)
 (pN Tryz.prog (oFn (.func 186) [] [x2, x5, x4]) w7 fun x13 w10 =>
 pN Tryz.prog (oLoad 76 x2) w10 fun x14 w11 =>
 pN Tryz.prog (oNil x14) w11 fun x15 w12 =>
 pN Tryz.prog (oFld 226 x15 1) w12 fun x16 w13 =>
 pN Tryz.prog (oLoad 224 x16) w13 fun x17 w14 =>
 pDf Tryz.prog (oDf x13 [x17]) w14 fun d =>
 ∃ Z : Pan, (∀ (ch : List PanicEntry) (w15 : World), Z.z ch w15 → dE Tryz.prog d (.panicking ch) w15 fun w16 =>
 pL Tryz.prog (oRes 148 x4) w16 fun r4 =>
 pL Tryz.prog (oRes 38 x5) w16 fun r5 =>
 Q (.tuple #[r4, r5]) w16) ∧
 (∃ (L5 : Value → World → Prop) (m5 : Value → World → Nat),
 L5 (.int .i64 0) w14 ∧
 ∀ (_k5 : Env) (v19l5 : Value) (w17 : World), L5 v19l5 w17 →
 pN Tryz.prog (oBin .lss 3 (.tmp 19) (.tmp 18) v19l5 x1) w17 fun x20 w18 =>
 pIf x20
 (∃ I15 : World → Prop,
 (pN Tryz.prog (oLoad 76 x2) w18 fun x21 w19 =>
 pN Tryz.prog (oNil x21) w19 fun x22 w20 =>
 pN Tryz.prog (oFld 226 x22 1) w20 fun x23 w21 =>
 pN Tryz.prog (oFld 224 x23 1) w21 fun x24 w22 =>
 pN Tryz.prog (oLoad 148 x24) w22 fun x25 w23 =>
 pN Tryz.prog (oBin .quo 148 (.tmp 25) (.const (.int .u32 2)) x25 (.int .u32 2)) w23 fun x26 w24 =>
 pN Tryz.prog (oLoad 148 x4) w24 fun x27 w25 =>
 pN Tryz.prog (oBin .shl 148 (.tmp 27) (.const (.int .u64 1)) x27 (.int .u64 1)) w25 fun x28 w26 =>
 pN Tryz.prog (oStore 148 x4 x28) w26 fun _ w27 =>
 ∃ I11 : World → Prop,
 (pN Tryz.prog (oLoad 76 x2) w27 fun x29 w28 =>
 pN Tryz.prog (oNil x29) w28 fun x30 w29 =>
 pN Tryz.prog (oFld 226 x30 1) w29 fun x31 w30 =>
 pN Tryz.prog (oFld 224 x31 2) w30 fun x32 w31 =>
 pN Tryz.prog (oLoad 148 x32) w31 fun x33 w32 =>
 pN Tryz.prog (oBin .geq 148 (.tmp 33) (.tmp 34) x33 x26) w32 fun x35 w33 =>
 pIf x35
 (pN Tryz.prog (oLoad 76 x2) w33 fun x36 w34 =>
 pN Tryz.prog (oNil x36) w34 fun x37 w35 =>
 pN Tryz.prog (oFld 226 x37 1) w35 fun x38 w36 =>
 pN Tryz.prog (oFld 224 x38 2) w36 fun x39 w37 =>
 pN Tryz.prog (oLoad 148 x39) w37 fun x40 w38 =>
 pN Tryz.prog (oBin .sub 148 (.tmp 40) (.tmp 41) x40 x26) w38 fun x42 w39 =>
 pN Tryz.prog (oNil x36) w39 fun x43 w40 =>
 pN Tryz.prog (oFld 226 x43 1) w40 fun x44 w41 =>
 pN Tryz.prog (oFld 224 x44 2) w41 fun x45 w42 =>
 pN Tryz.prog (oStore 148 x45 x42) w42 fun _ w43 =>
 pN Tryz.prog (oLoad 148 x4) w43 fun x46 w44 =>
 pN Tryz.prog (oBin .or 148 (.tmp 46) (.const (.int .u32 1)) x46 (.int .u32 1)) w44 fun x47 w45 =>
 pN Tryz.prog (oStore 148 x4 x47) w45 fun _ w46 =>
 I11 w46)
 (I11 w33)) ∧
 ∀ (_j11 : Env) (w47 : World), I11 w47 →
 ∃ I13 : World → Prop,
 (pN Tryz.prog (oLoad 76 x2) w47 fun x48 w48 =>
 pN Tryz.prog (oNil x48) w48 fun x49 w49 =>
 pN Tryz.prog (oFld 226 x49 1) w49 fun x50 w50 =>
 pN Tryz.prog (oFld 224 x50 2) w50 fun x51 w51 =>
 pN Tryz.prog (oLoad 148 x51) w51 fun x52 w52 =>
 pN Tryz.prog (oBin .eql 148 (.tmp 52) (.tmp 53) x52 x26) w52 fun x54 w53 =>
 pIf x54
 (pN Tryz.prog (oIface 268 (.int .i64 2)) w53 fun x55 w54 =>
 pN Tryz.prog (oPanic x55) w54 fun _ w55 =>
 I13 w55)
 (I13 w53)) ∧
 ∀ (_j13 : Env) (w56 : World), I13 w56 →
 pN Tryz.prog (oLoad 76 x2) w56 fun x56 w57 =>
 pN Tryz.prog (oNil x56) w57 fun x58 w58 =>
 pN Tryz.prog (oFld 226 x58 1) w58 fun x59 w59 =>
 pN Tryz.prog (oFld 224 x59 1) w59 fun x60 w60 =>
 pN Tryz.prog (oStore 148 x60 x26) w60 fun _ w61 =>
 pN Tryz.prog (oLoad 76 x2) w61 fun x61 w62 =>
 pN Tryz.prog (oCall 185 [x61]) w62 fun _ w63 =>
 I15 w63) ∧
 ∀ (_j15 : Env) (w64 : World), I15 w64 →
 pN Tryz.prog (oBin .add 3 (.tmp 19) (.const (.int .i64 1)) v19l5 (.int .i64 1)) w64 fun x63 w65 =>
 (L5 x63 w65 ∧ m5 x63 w65 < m5 v19l5 w17))
 (pN Tryz.prog (oLoad 148 x4) w18 fun x64 w66 =>
 pN Tryz.prog (oStore 148 x4 x64) w66 fun _ w67 =>
 pN Tryz.prog (oStore 38 x5 (.int .i64 0)) w67 fun _ w68 =>
 dE Tryz.prog d .returning w68 fun w69 =>
 pL Tryz.prog (oRes 148 x4) w69 fun r4 =>
 pL Tryz.prog (oRes 38 x5) w69 fun r5 =>
 Q (.tuple #[r4, r5]) w69)))
theorem rcdec_Decoder_Direct.eq [Pan] (x0 : Value) (x1 : Value) (w : World) (Q : Value → World → Prop) : cwD Tryz.prog rcdec_Decoder_Direct.H Tryz.f166.results.toList Q rcdec_Decoder_Direct.c (argsE [x0, x1]) w = rcdec_Decoder_Direct.F x0 x1 w Q := by kernel_rfl
theorem rcdec_Decoder_Direct.calls [Pan] {x0 : Value} {x1 : Value} {w : World} {Q : Value → World → Prop} (h : rcdec_Decoder_Direct.F x0 x1 w Q) : Calls Tryz.prog 166 #[x0, x1] w (retP Q) :=
  calls_of_cwD (H := rcdec_Decoder_Direct.H) (c := rcdec_Decoder_Direct.c) (args := [x0, x1]) mixed 6 Tryz.func166 (by kernel_rfl) (by kernel_rfl) (by kernel_rfl) (Nat.le_of_ble_eq_true (by kernel_rfl)) ((rcdec_Decoder_Direct.eq x0 x1 w Q).mpr h)

def rcdec_Decoder_Bit_c1.H : Hints := { cut := fun  | _ => none, loop := fun  | _ => ([], 0), order := fun | 1 => [(0, 0), (1, 1), (2, 3), (3, 7), (4, 15)] | _ => [] }
noncomputable def rcdec_Decoder_Bit_c1.c : Code := match Tryz.f180.body with | some c => c | none => .skip
noncomputable def rcdec_Decoder_Bit_c1.d (rv : Value) : Code := recCode 1 2 rv rcdec_Decoder_Bit_c1.c
def rcdec_Decoder_Bit_c1.F (rv : Value) (x0 : Value) (x1 : Value) (x2 : Value) (x3 : Value) (x4 : Value) (x5 : Value) (w : World) (Q : Value → World → Prop) : Prop :=
 pN Tryz.prog (oBox 224 x0) w fun x6 w1 =>
 pDr w1 fun w2 =>
 pL Tryz.prog (oLoad 76 x1) w2 fun x7 =>
 pL Tryz.prog (oLoad 224 x6) w2 fun x8 =>
 pN Tryz.prog (oCall 181 [x7, x8, rv]) w2 fun x10 w3 =>
 (True) ∧ (pN Tryz.prog (oStore 38 x2 x10) w3 fun _ w4 =>
 (True) ∧ (pN Tryz.prog (oLoad 38 x2) w4 fun x11 w5 =>
 pN Tryz.prog (oBin .neq 38 (.tmp 11) (.const (.int .i64 0)) x11 (.int .i64 0)) w5 fun x12 w6 =>
 pIf x12
 (pN Tryz.prog (oStore 3 x3 (.int .i64 0)) w6 fun _ w7 =>
 Q (.tuple #[]) w7)
 (pN Tryz.prog (oLoad 137 x4) w6 fun x13 w8 =>
 pN Tryz.prog (oLoad 3 x5) w8 fun x14 w9 =>
 pN Tryz.prog (oLoad 3 x3) w9 fun x15 w10 =>
 pN Tryz.prog (oCall 182 [x13, x14, x15]) w10 fun _ w11 =>
 Q (.tuple #[]) w11)))
theorem rcdec_Decoder_Bit_c1.eq (rv : Value) (x0 : Value) (x1 : Value) (x2 : Value) (x3 : Value) (x4 : Value) (x5 : Value) (w : World) (Q : Value → World → Prop) : cw Tryz.prog rcdec_Decoder_Bit_c1.H (rcdec_Decoder_Bit_c1.d rv) (endQ Tryz.prog Tryz.f180.results.toList Q) (argsE [x0, x1, x2, x3, x4, x5]) w = rcdec_Decoder_Bit_c1.F rv x0 x1 x2 x3 x4 x5 w Q := by kernel_rfl
theorem rcdec_Decoder_Bit_c1.panics {rv : Value} {older : List PanicEntry} {x0 : Value} {x1 : Value} {x2 : Value} {x3 : Value} {x4 : Value} {x5 : Value} {w : World} {Q : Value → World → Prop} (h : rcdec_Decoder_Bit_c1.F rv x0 x1 x2 x3 x4 x5 w Q) : CallsD Tryz.prog 180 #[x0, x1, x2, x3, x4, x5] (.panicking ({ v := rv, recovered := false } :: older)) w fun e u w => u = .panicking ({ v := rv, recovered := true } :: older) ∧ ∃ r, e = .returned r ∧ Q r w :=
  callsD_of_cw (H := rcdec_Decoder_Bit_c1.H) (c := rcdec_Decoder_Bit_c1.c) (c' := rcdec_Decoder_Bit_c1.d rv) (args := [x0, x1, x2, x3, x4, x5]) mixed (Or.inl ⟨older, rfl, rfl⟩) Tryz.func180 (by kernel_rfl) (rsp_of _ _ _ _ _ (by kernel_rfl)) (by kernel_rfl) (Nat.le_of_ble_eq_true (by kernel_rfl)) ((rcdec_Decoder_Bit_c1.eq rv x0 x1 x2 x3 x4 x5 w Q).mpr h)
theorem rcdec_Decoder_Bit_c1.idles {x0 : Value} {x1 : Value} {x2 : Value} {x3 : Value} {x4 : Value} {x5 : Value} {w : World} {Q : Value → World → Prop} (h : rcdec_Decoder_Bit_c1.F .nilIface x0 x1 x2 x3 x4 x5 w Q) : CallsD Tryz.prog 180 #[x0, x1, x2, x3, x4, x5] .returning w fun e u w => u = .returning ∧ ∃ r, e = .returned r ∧ Q r w :=
  callsD_of_cw (H := rcdec_Decoder_Bit_c1.H) (c := rcdec_Decoder_Bit_c1.c) (c' := rcdec_Decoder_Bit_c1.d .nilIface) (args := [x0, x1, x2, x3, x4, x5]) mixed (Or.inr ⟨rfl, rfl, rfl⟩) Tryz.func180 (by kernel_rfl) (rsp_of _ _ _ _ _ (by kernel_rfl)) (by kernel_rfl) (Nat.le_of_ble_eq_true (by kernel_rfl)) ((rcdec_Decoder_Bit_c1.eq .nilIface x0 x1 x2 x3 x4 x5 w Q).mpr h)

def rcdec_Decoder_back.H : Hints := { cut := fun | 6 => some ([], 458752) | _ => none, loop := fun  | _ => ([], 0), order := fun  | _ => [] }
def rcdec_Decoder_back.F [Pan] (x0 x1 x2 : Value) (w : World) (Q : Value → World → Prop) : Prop :=
 pN Tryz.prog (oBox 224 x1) w fun x4 w1 =>
 pN Tryz.prog (oBin .eql 20 (.tmp 9) (.const .nilIface) x2 .nilIface) w1 fun x10 w2 =>
 pIf x10
 (Q (.int .i64 0) w2)
 (pN Tryz.prog (oAssert x2 20 268 true) w2 fun x13 w3 =>
 pN Tryz.prog (oExt x13 0) w3 fun x14 w4 =>
 pN Tryz.prog (oExt x13 1) w4 fun x15 w5 =>
 ∃ I6 : World → Prop,
 (pN Tryz.prog (oUn .not x15) w5 fun x17 w6 =>
 pIf x17
 (pN Tryz.prog (oPanic x2) w6 fun _ w7 =>
 I6 w7)
 (I6 w6)) ∧
 ∀ (_j6 : Env) (w8 : World), I6 w8 →
 pN Tryz.prog (oLoad 224 x4) w8 fun x20 w9 =>
 pN Tryz.prog (oNil x0) w9 fun x21 w10 =>
 pN Tryz.prog (oFld 226 x21 1) w10 fun x22 w11 =>
 pN Tryz.prog (oStore 224 x22 x20) w11 fun _ w12 =>
 Q x14 w12)
theorem rcdec_Decoder_back.calls [Pan] {x0 x1 x2 : Value} {w : World} {Q : Value → World → Prop} (h : rcdec_Decoder_back.F x0 x1 x2 w Q) : Calls Tryz.prog 181 #[x0, x1, x2] w (retP Q) := calls_lift mixed rcdec_Decoder_back.H [x0, x1, x2] Tryz.func181 (by kernel_rfl) (by kernel_rfl) h

def rcdec_Decoder_upper.F [Pan] (x0 x1 : Value) (w : World) (Q : Value → World → Prop) : Prop :=
 pN Tryz.prog (oNil x0) w fun x6 w1 =>
 pN Tryz.prog (oFld 226 x6 1) w1 fun x7 w2 =>
 pN Tryz.prog (oFld 224 x7 2) w2 fun x8 w3 =>
 pN Tryz.prog (oLoad 148 x8) w3 fun x9 w4 =>
 pN Tryz.prog (oBin .lss 148 (.tmp 9) (.tmp 10) x9 x1) w4 fun x11 w5 =>
 pIf x11
 (pN Tryz.prog (oNil x0) w5 fun x14 w6 =>
 pN Tryz.prog (oFld 226 x14 1) w6 fun x15 w7 =>
 pN Tryz.prog (oFld 224 x15 1) w7 fun x16 w8 =>
 pN Tryz.prog (oStore 148 x16 x1) w8 fun _ w9 =>
 Q (.bool false) w9)
 (pN Tryz.prog (oNil x0) w5 fun x18 w10 =>
 pN Tryz.prog (oFld 226 x18 1) w10 fun x19 w11 =>
 pN Tryz.prog (oFld 224 x19 2) w11 fun x20 w12 =>
 pN Tryz.prog (oLoad 148 x20) w12 fun x21 w13 =>
 pN Tryz.prog (oBin .sub 148 (.tmp 21) (.tmp 22) x21 x1) w13 fun x23 w14 =>
 pN Tryz.prog (oNil x0) w14 fun x24 w15 =>
 pN Tryz.prog (oFld 226 x24 1) w15 fun x25 w16 =>
 pN Tryz.prog (oFld 224 x25 2) w16 fun x26 w17 =>
 pN Tryz.prog (oStore 148 x26 x23) w17 fun _ w18 =>
 pN Tryz.prog (oNil x0) w18 fun x28 w19 =>
 pN Tryz.prog (oFld 226 x28 1) w19 fun x29 w20 =>
 pN Tryz.prog (oFld 224 x29 1) w20 fun x30 w21 =>
 pN Tryz.prog (oLoad 148 x30) w21 fun x31 w22 =>
 pN Tryz.prog (oBin .sub 148 (.tmp 31) (.tmp 32) x31 x1) w22 fun x33 w23 =>
 pN Tryz.prog (oNil x0) w23 fun x34 w24 =>
 pN Tryz.prog (oFld 226 x34 1) w24 fun x35 w25 =>
 pN Tryz.prog (oFld 224 x35 1) w25 fun x36 w26 =>
 pN Tryz.prog (oStore 148 x36 x33) w26 fun _ w27 =>
 Q (.bool true) w27)
theorem rcdec_Decoder_upper.calls [Pan] {x0 x1 : Value} {w : World} {Q : Value → World → Prop} (h : rcdec_Decoder_upper.F x0 x1 w Q) : Calls Tryz.prog 183 #[x0, x1] w (retP Q) := calls_lift mixed .z [x0, x1] Tryz.func183 (by kernel_rfl) (by kernel_rfl) h

def rcdec_Decoder_widen.H : Hints := { cut := fun | 3 => some ([], 1048320) | _ => none, loop := fun  | _ => ([], 0), order := fun | 1 => [(0, 0), (1, 1), (2, 3), (3, 7), (4, 15), (5, 31), (6, 63), (7, 127), (8, 255), (9, 511), (10, 1023)] | 4 => [(0, 0), (1, 1), (2, 3), (3, 7), (4, 15), (5, 31), (6, 63), (7, 127), (8, 255), (9, 511), (10, 1023), (11, 2047), (12, 4095), (13, 8191), (14, 16383), (15, 32767), (16, 65535), (17, 131071), (18, 262143), (19, 524287), (20, 1048575), (21, 2097151), (22, 4194303), (23, 8388607)] | _ => [] }
def rcdec_Decoder_widen.F [Pan] (x0 : Value) (w : World) (Q : Value → World → Prop) : Prop :=
 pN Tryz.prog (oNil x0) w fun x3 w1 =>
 pN Tryz.prog (oFld 226 x3 1) w1 fun x4 w2 =>
 pN Tryz.prog (oFld 224 x4 1) w2 fun x5 w3 =>
 pN Tryz.prog (oLoad 148 x5) w3 fun x6 w4 =>
 pN Tryz.prog (oBin .geq 148 (.tmp 6) (.const (.int .u32 16777216)) x6 (.int .u32 16777216)) w4 fun x7 w5 =>
 pIf x7
 (Q (.tuple #[]) w5)
 (∃ I3 : World → Prop,
 (pDr w5 fun w6 =>
 pA Tryz.prog (oNil x0) fun x9 =>
 pA Tryz.prog (oFld 226 x9 1) fun x10 =>
 pA Tryz.prog (oFld 224 x10 0) fun x11 =>
 pL Tryz.prog (oLoad 3 x11) w6 fun x12 =>
 pA Tryz.prog (oNil x0) fun x14 =>
 pA Tryz.prog (oFld 226 x14 0) fun x15 =>
 pL Tryz.prog (oLoad 30 x15) w6 fun x16 =>
 pA Tryz.prog (oBi .len #[30] 3 [false] [x16]) fun x17 =>
 pA Tryz.prog (oBin .eql 3 (.tmp 12) (.tmp 17) x12 x17) fun x18 =>
 pIf x18
 (pN Tryz.prog (oIface 268 (.int .i64 1)) w6 fun x19 w7 =>
 pN Tryz.prog (oPanic x19) w7 fun _ w8 =>
 I3 w8)
 (I3 w6)) ∧
 ∀ (_j3 : Env) (w9 : World), I3 w9 →
 pN Tryz.prog (oNil x0) w9 fun x21 w10 =>
 pN Tryz.prog (oFld 226 x21 1) w10 fun x22 w11 =>
 pN Tryz.prog (oFld 224 x22 1) w11 fun x23 w12 =>
 pN Tryz.prog (oLoad 148 x23) w12 fun x24 w13 =>
 pN Tryz.prog (oBin .shl 148 (.tmp 24) (.const (.int .u64 8)) x24 (.int .u64 8)) w13 fun x25 w14 =>
 pN Tryz.prog (oNil x0) w14 fun x26 w15 =>
 pN Tryz.prog (oFld 226 x26 1) w15 fun x27 w16 =>
 pN Tryz.prog (oFld 224 x27 1) w16 fun x28 w17 =>
 pN Tryz.prog (oStore 148 x28 x25) w17 fun _ w18 =>
 pDr w18 fun w19 =>
 pA Tryz.prog (oNil x0) fun x31 =>
 pA Tryz.prog (oFld 226 x31 1) fun x32 =>
 pA Tryz.prog (oFld 224 x32 2) fun x33 =>
 pL Tryz.prog (oLoad 148 x33) w19 fun x34 =>
 pA Tryz.prog (oBin .shl 148 (.tmp 34) (.const (.int .u64 8)) x34 (.int .u64 8)) fun x35 =>
 pA Tryz.prog (oNil x0) fun x37 =>
 pA Tryz.prog (oFld 226 x37 0) fun x38 =>
 pL Tryz.prog (oLoad 30 x38) w19 fun x39 =>
 pA Tryz.prog (oNil x0) fun x41 =>
 pA Tryz.prog (oFld 226 x41 1) fun x42 =>
 pA Tryz.prog (oFld 224 x42 0) fun x43 =>
 pL Tryz.prog (oLoad 3 x43) w19 fun x44 =>
 pA Tryz.prog (oIdx 30 x39 x44) fun x45 =>
 pL Tryz.prog (oLoad 5 x45) w19 fun x46 =>
 pL Tryz.prog (oConv 5 148 x46) w19 fun x47 =>
 pA Tryz.prog (oBin .or 148 (.tmp 35) (.tmp 47) x35 x47) fun x48 =>
 pA Tryz.prog (oNil x0) fun x49 =>
 pA Tryz.prog (oFld 226 x49 1) fun x50 =>
 pA Tryz.prog (oFld 224 x50 2) fun x51 =>
 pN Tryz.prog (oStore 148 x51 x48) w19 fun _ w20 =>
 (True) ∧ (pN Tryz.prog (oNil x0) w20 fun x53 w21 =>
 pN Tryz.prog (oFld 226 x53 1) w21 fun x54 w22 =>
 pN Tryz.prog (oFld 224 x54 0) w22 fun x55 w23 =>
 pN Tryz.prog (oLoad 3 x55) w23 fun x56 w24 =>
 pN Tryz.prog (oBin .add 3 (.tmp 56) (.const (.int .i64 1)) x56 (.int .i64 1)) w24 fun x57 w25 =>
 pN Tryz.prog (oNil x0) w25 fun x58 w26 =>
 pN Tryz.prog (oFld 226 x58 1) w26 fun x59 w27 =>
 pN Tryz.prog (oFld 224 x59 0) w27 fun x60 w28 =>
 pN Tryz.prog (oStore 3 x60 x57) w28 fun _ w29 =>
 Q (.tuple #[]) w29))
theorem rcdec_Decoder_widen.calls [Pan] {x0 : Value} {w : World} {Q : Value → World → Prop} (h : rcdec_Decoder_widen.F x0 w Q) : Calls Tryz.prog 185 #[x0] w (retP Q) := calls_lift mixed rcdec_Decoder_widen.H [x0] Tryz.func185 (by kernel_rfl) (by kernel_rfl) h

def rcdec_Decoder_Direct_c1.H : Hints := { cut := fun  | _ => none, loop := fun  | _ => ([], 0), order := fun | 1 => [(0, 0), (1, 1), (2, 3), (3, 7), (4, 15)] | _ => [] }
noncomputable def rcdec_Decoder_Direct_c1.c : Code := match Tryz.f186.body with | some c => c | none => .skip
noncomputable def rcdec_Decoder_Direct_c1.d (rv : Value) : Code := recCode 1 2 rv rcdec_Decoder_Direct_c1.c
def rcdec_Decoder_Direct_c1.F (rv : Value) (x0 : Value) (x1 : Value) (x2 : Value) (x3 : Value) (w : World) (Q : Value → World → Prop) : Prop :=
 pN Tryz.prog (oBox 224 x0) w fun x4 w1 =>
 pDr w1 fun w2 =>
 pL Tryz.prog (oLoad 76 x1) w2 fun x5 =>
 pL Tryz.prog (oLoad 224 x4) w2 fun x6 =>
 pN Tryz.prog (oCall 181 [x5, x6, rv]) w2 fun x8 w3 =>
 (True) ∧ (pN Tryz.prog (oStore 38 x2 x8) w3 fun _ w4 =>
 (True) ∧ (pN Tryz.prog (oLoad 38 x2) w4 fun x9 w5 =>
 pN Tryz.prog (oBin .neq 38 (.tmp 9) (.const (.int .i64 0)) x9 (.int .i64 0)) w5 fun x10 w6 =>
 pIf x10
 (pN Tryz.prog (oStore 148 x3 (.int .u32 0)) w6 fun _ w7 =>
 Q (.tuple #[]) w7)
 (Q (.tuple #[]) w6)))
theorem rcdec_Decoder_Direct_c1.eq (rv : Value) (x0 : Value) (x1 : Value) (x2 : Value) (x3 : Value) (w : World) (Q : Value → World → Prop) : cw Tryz.prog rcdec_Decoder_Direct_c1.H (rcdec_Decoder_Direct_c1.d rv) (endQ Tryz.prog Tryz.f186.results.toList Q) (argsE [x0, x1, x2, x3]) w = rcdec_Decoder_Direct_c1.F rv x0 x1 x2 x3 w Q := by kernel_rfl
theorem rcdec_Decoder_Direct_c1.panics {rv : Value} {older : List PanicEntry} {x0 : Value} {x1 : Value} {x2 : Value} {x3 : Value} {w : World} {Q : Value → World → Prop} (h : rcdec_Decoder_Direct_c1.F rv x0 x1 x2 x3 w Q) : CallsD Tryz.prog 186 #[x0, x1, x2, x3] (.panicking ({ v := rv, recovered := false } :: older)) w fun e u w => u = .panicking ({ v := rv, recovered := true } :: older) ∧ ∃ r, e = .returned r ∧ Q r w :=
  callsD_of_cw (H := rcdec_Decoder_Direct_c1.H) (c := rcdec_Decoder_Direct_c1.c) (c' := rcdec_Decoder_Direct_c1.d rv) (args := [x0, x1, x2, x3]) mixed (Or.inl ⟨older, rfl, rfl⟩) Tryz.func186 (by kernel_rfl) (rsp_of _ _ _ _ _ (by kernel_rfl)) (by kernel_rfl) (Nat.le_of_ble_eq_true (by kernel_rfl)) ((rcdec_Decoder_Direct_c1.eq rv x0 x1 x2 x3 w Q).mpr h)
theorem rcdec_Decoder_Direct_c1.idles {x0 : Value} {x1 : Value} {x2 : Value} {x3 : Value} {w : World} {Q : Value → World → Prop} (h : rcdec_Decoder_Direct_c1.F .nilIface x0 x1 x2 x3 w Q) : CallsD Tryz.prog 186 #[x0, x1, x2, x3] .returning w fun e u w => u = .returning ∧ ∃ r, e = .returned r ∧ Q r w :=
  callsD_of_cw (H := rcdec_Decoder_Direct_c1.H) (c := rcdec_Decoder_Direct_c1.c) (c' := rcdec_Decoder_Direct_c1.d .nilIface) (args := [x0, x1, x2, x3]) mixed (Or.inr ⟨rfl, rfl, rfl⟩) Tryz.func186 (by kernel_rfl) (rsp_of _ _ _ _ _ (by kernel_rfl)) (by kernel_rfl) (Nat.le_of_ble_eq_true (by kernel_rfl)) ((rcdec_Decoder_Direct_c1.eq .nilIface x0 x1 x2 x3 w Q).mpr h)

end Go.Proofs.YtbgnnjfpiblkmaaGreatDoor

namespace Go.Proofs.YtbgnnjfpiblkmaaGreatDoor
open Go

namespace D
structure S where
  b : List UInt8
  k : Nat
  R : Int
  C : Int

structure Ok (s : S) : Prop where
  k : s.k ≤ s.b.length
  r0 : 16777216 ≤ s.R
  r1 : s.R < 4294967296
  c0 : 0 ≤ s.C
  c1 : s.C < s.R

def S.widen (s : S) : Option S := if 16777216 ≤ s.R then some s else match s.b[s.k]? with
  | none => none
  | some x => some ⟨s.b, s.k + 1, s.R * 256, s.C * 256 + (x.toNat : Int)⟩
def S.bitAt (s : S) (c : Int) : Int := if s.C < c then 0 else 1
def S.cut (s : S) (c : Int) : S := if s.C < c then ⟨s.b, s.k, c, s.C⟩ else ⟨s.b, s.k, s.R - c, s.C - c⟩
inductive An (α : Type)
  | ok (s : S) (v : α)
  | no (e : Int)
def S.bit (s : S) (c : Int) : An Int := match (s.cut c).widen with
  | some t => .ok t (s.bitAt c)
  | none => .no 1
def S.one (s : S) : S := if s.C < s.R / 2 then ⟨s.b, s.k, s.R / 2, s.C⟩ else ⟨s.b, s.k, s.R / 2, s.C - s.R / 2⟩
def S.direct (s : S) (v : Int) : Nat → An Int
  | 0 => .ok s v
  | n + 1 => if s.one.R ≤ s.one.C then .no 2 else match s.one.widen with
    | none => .no 1
    | some t => t.direct (2 * v + s.bitAt (s.R / 2)) n

def front (b : List UInt8) (i : Nat) : Int := R.num ((b.drop 1).take i)
def start (b : List UInt8) : An Unit := if b.length < 5 then .no 1 else if b[0]? ≠ some 0 ∨ front b 4 = 4294967295 then .no 2 else .ok ⟨b, 5, 4294967295, front b 4⟩ ()
theorem front_0 (b : List UInt8) : front b 0 = 0 := by simp [front, R.num]
theorem front_succ (b : List UInt8) (i : Nat) {x : UInt8} (h : b[i + 1]? = some x) : front b (i + 1) = front b i * 256 + (x.toNat : Int) := by
  unfold front
  have h2 : (b.drop 1)[i]? = some x := by rw [List.getElem?_drop, Nat.add_comm]; exact h
  rw [List.take_add_one, h2, Option.toList_some, R.num_snoc]
theorem front_bd (b : List UInt8) (i : Nat) (h : i ≤ 4) : 0 ≤ front b i ∧ front b i < 256 ^ i := by
  refine ⟨R.num_nonneg _, ?_⟩
  have h1 := R.num_lt ((b.drop 1).take i)
  have h2 : ((b.drop 1).take i).length ≤ i := by rw [List.length_take]; omega
  refine Int.lt_of_lt_of_le h1 ?_
  have : (256 : Nat) ^ ((b.drop 1).take i).length ≤ 256 ^ i := Nat.pow_le_pow_right (by omega) h2
  have e : ∀ k : Nat, (256 : Int) ^ k = ((256 ^ k : Nat) : Int) := fun k => (Int.natCast_pow 256 k).symm
  rw [e, e]
  exact Int.ofNat_le.2 this
theorem front_lt (b : List UInt8) (i : Nat) (h : i ≤ 3) : 0 ≤ front b i ∧ front b i < 16777216 := by
  have h1 := front_bd b i (by omega)
  have h2 : (256 : Nat) ^ i ≤ 256 ^ 3 := Nat.pow_le_pow_right (by omega) h
  have e : ∀ k : Nat, (256 : Int) ^ k = ((256 ^ k : Nat) : Int) := fun k => (Int.natCast_pow 256 k).symm
  have h3 : (256 : Int) ^ i ≤ 256 ^ 3 := by rw [e, e]; exact Int.ofNat_le.2 h2
  have h4 : (256 : Int) ^ 3 = 16777216 := by decide
  omega
theorem start_ok {b : List UInt8} {t : S} {u : Unit} (h : start b = .ok t u) : Ok t ∧ t.b = b ∧ t.k = 5 := by
  by_cases h1 : b.length < 5
  · rw [start, if_pos h1] at h
    cases h
  · by_cases h2 : b[0]? ≠ some 0 ∨ front b 4 = 4294967295
    · rw [start, if_neg h1, if_pos h2] at h
      cases h
    · rw [start, if_neg h1, if_neg h2] at h
      cases h
      have h3 := front_bd b 4 (by omega)
      have h4 : (256 : Int) ^ 4 = 4294967296 := by decide
      have h5 : front b 4 ≠ 4294967295 := fun e => h2 (.inr e)
      exact ⟨⟨by simp only; omega, by simp only; omega, by simp only; omega, h3.1, by simp only; omega⟩, rfl, rfl⟩

theorem widen_b {s t : S} (h : s.widen = some t) : t.b = s.b := by
  unfold S.widen at h
  split at h
  · cases h; rfl
  · split at h
    · cases h
    · cases h; rfl
theorem widen_ok {s t : S} (hk : s.k ≤ s.b.length) (r0 : 65536 ≤ s.R) (r1 : s.R < 4294967296) (c0 : 0 ≤ s.C) (c1 : s.C < s.R) (h : s.widen = some t) : Ok t := by
  unfold S.widen at h
  split at h
  · cases h; exact ⟨hk, by assumption, r1, c0, c1⟩
  · split at h
    · cases h
    · rename_i x hx
      cases h
      have hlt := (List.getElem?_eq_some_iff.1 hx).1
      have := x.toNat_lt
      exact ⟨by simp only; omega, by simp only; omega, by simp only; omega, by simp only; omega, by simp only; omega⟩
theorem bound_mid {r p : Int} (hr : 16777216 ≤ r) (h0 : 31 ≤ p) (h1 : p ≤ 2017) : 65536 ≤ B.bound r p ∧ 65536 ≤ r - B.bound r p := by
  unfold B.bound
  rw [B.taken_self (by omega) (by omega)]
  have a1 : r / 2048 * 31 ≤ r / 2048 * p := Int.mul_le_mul_of_nonneg_left h0 (by omega)
  have a2 : r / 2048 * p ≤ r / 2048 * 2017 := Int.mul_le_mul_of_nonneg_left h1 (by omega)
  omega
structure CutOk (s : S) (b : List UInt8) : Prop where
  b : s.b = b
  k : s.k ≤ s.b.length
  r0 : 65536 ≤ s.R
  r1 : s.R < 4294967296
  c0 : 0 ≤ s.C
  c1 : s.C < s.R
theorem Ok.cut {s : S} (h : Ok s) {c : Int} (h0 : 65536 ≤ c) (h1 : 65536 ≤ s.R - c) : CutOk (s.cut c) s.b := by
  obtain ⟨a1, a2, a3, a4, a5⟩ := h
  unfold S.cut
  split
  · exact ⟨rfl, a1, h0, by simp only; omega, a4, by simp only; omega⟩
  · exact ⟨rfl, a1, h1, by simp only; omega, by simp only; omega, by simp only; omega⟩
theorem Ok.bit {s t : S} (h : Ok s) {c v : Int} (h0 : 65536 ≤ c) (h1 : 65536 ≤ s.R - c) (e : s.bit c = .ok t v) : Ok t ∧ t.b = s.b ∧ v = s.bitAt c := by
  unfold S.bit at e
  split at e
  · rename_i t' ht
    cases e
    have hc := h.cut h0 h1
    exact ⟨widen_ok hc.k hc.r0 hc.r1 hc.c0 hc.c1 ht, (widen_b ht).trans hc.b, rfl⟩
  · cases e
theorem bitAt_01 (s : S) (c : Int) : s.bitAt c = 0 ∨ s.bitAt c = 1 := by unfold S.bitAt; split <;> simp
structure OneOk (s : S) (b : List UInt8) : Prop where
  b : s.b = b
  k : s.k ≤ s.b.length
  r0 : 8388608 ≤ s.R
  r1 : s.R < 2147483648
  c0 : 0 ≤ s.C
  c1 : s.C ≤ s.R
theorem Ok.one {s : S} (h : Ok s) : OneOk s.one s.b := by
  obtain ⟨a1, a2, a3, a4, a5⟩ := h
  unfold S.one
  split
  · exact ⟨rfl, a1, by simp only; omega, by simp only; omega, a4, by simp only; omega⟩
  · exact ⟨rfl, a1, by simp only; omega, by simp only; omega, by simp only; omega, by simp only; omega⟩
theorem OneOk.widen {s t : S} {b : List UInt8} (h : OneOk s b) (hc : s.C < s.R) (e : s.widen = some t) : Ok t ∧ t.b = b :=
  ⟨widen_ok h.k (by have := h.r0; omega) (by have := h.r1; omega) h.c0 hc e, (widen_b e).trans h.b⟩
theorem Ok.direct : ∀ (n : Nat) {s t : S} {v u : Int}, Ok s → s.direct v n = .ok t u → Ok t ∧ t.b = s.b
  | 0, s, t, v, u, h, e => by cases e; exact ⟨h, rfl⟩
  | n + 1, s, t, v, u, h, e => by
    simp only [S.direct] at e
    split at e
    · cases e
    · split at e
      · cases e
      · rename_i t' ht
        obtain ⟨h1, h2⟩ := h.one.widen (by omega) ht
        obtain ⟨h3, h4⟩ := Ok.direct n h1 e
        exact ⟨h3, h4.trans h2⟩
end D

end Go.Proofs.YtbgnnjfpiblkmaaGreatDoor

namespace Go.Proofs.YtbgnnjfpiblkmaaGreatDoor
open Go
attribute [local irreducible] oMv oV oU oCall oCallV oBi oBin oUn oLoad oStore oNil oFld oField oIdx oIndex oPick oAlloc oBox oBuild oBs oConv oMk oSl oExt oFn oIface oMap oLook oMapUp oRange oNext oEntry oInv oAssert oPanic oRes pN pA pL pDr pIf gA pGd
attribute [local irreducible] oDf pDf dE

def Dec (d : Nat) (st : D.S) : HA := fun h => ∃ s : Sl, Sats [cel d ⟨226, [.slice s.a st.b.length s.c, .int .i64 st.k, .int .u32 st.R, .int .u32 st.C]⟩, rows cd_uint8 s st.b] h
abbrev refd (e : Int) : Value := .iface 268 (.int .i64 e)

section
variable {E w : World} {M : List HA} {Q : Value → World → Prop} {d : Nat} {st : D.S}

theorem Dec.opn (hS : Sat E w (Dec d st :: M)) : ∃ s : Sl, Sat E w (cel d ⟨226, [.slice s.a st.b.length s.c, .int .i64 st.k, .int .u32 st.R, .int .u32 st.C]⟩ :: rows cd_uint8 s st.b :: M) := by
  obtain ⟨s, hS⟩ := hS.ex
  exact ⟨s, hS.open_ (M := [_, _]) fun _ h => h⟩
theorem Dec.shut {s : Sl} {L N : List HA} {o : Ob} {l : List UInt8} (hS : Sat E w L) (st : D.S) [h1 : Fnd (cel d) L o N] [h2 : Fnd (rows cd_uint8 s) N l M] (ho : o = ⟨226, [.slice s.a l.length s.c, .int .i64 st.k, .int .u32 st.R, .int .u32 st.C]⟩) (hl : l = st.b) : Sat E w (Dec d st :: M) := by
  subst hl
  subst ho
  exact Sat.shut (M := [_, _]) (hS.fd2 (cel d) (rows cd_uint8 s)) fun _ h => ⟨s, h⟩

section
variable [Pan] {K : Value → World → Prop} {J : Value → Prop} {t : TypeId} {xo yo : Operand} {a b : Int}
theorem pN_ifr {n : Int} (hk : K (refd n) w) : pN Tryz.prog (oIface 268 (.int .i64 n)) w K := by
  have : (oIface 268 (.int .i64 n)).run Tryz.prog w = .ok (.value (refd n)) w := by kernel_rfl
  rw [pN_def, this, rN_value]; exact hk
theorem pN_pnr {n : Int} (h : Pan.z [{ v := refd n, recovered := false }] w) : pN Tryz.prog (oPanic (refd n)) w K := pN_panic (by kernel_rfl) h
theorem pN_orl (c : Int) (j : Nat) (hc : c = 2 ^ j) (ha : 0 ≤ a) (hb : 0 ≤ b ∧ b < c) (h : a * c + b < 4294967296) (hk : K (.int .u32 (a * c + b)) w) : pN Tryz.prog (oBin .or t xo yo (.int .u32 (a * c)) (.int .u32 b)) w K := by
  subst hc
  have e := or_low IntKind.u32.bits a b j ha hb.1 hb.2 h
  rw [pN_or, e, w_u32 (by have := Int.mul_nonneg ha (Int.le_of_lt (Int.pow_pos (n := 2) (m := j) (by omega))); omega)]
  exact hk
theorem pA_orl (c : Int) (j : Nat) (hc : c = 2 ^ j) (ha : 0 ≤ a) (hb : 0 ≤ b ∧ b < c) (h : a * c + b < 4294967296) (hk : J (.int .u32 (a * c + b))) : pA Tryz.prog (oBin .or t xo yo (.int .u32 (a * c)) (.int .u32 b)) J := by
  subst hc
  have e := or_low IntKind.u32.bits a b j ha hb.1 hb.2 h
  rw [pA_or, e, w_u32 (by have := Int.mul_nonneg ha (Int.le_of_lt (Int.pow_pos (n := 2) (m := j) (by omega))); omega)]
  exact hk
end

theorem Dwiden_ok [Pan] (hS : Sat E w (Dec d st :: M)) (hk : st.k ≤ st.b.length) (hb : st.b.length ≤ 225000000000000) (r0 : 0 < st.R) (c0 : 0 ≤ st.C) (c1 : st.C < st.R)
    (hQ : ∀ t w, st.widen = some t → Sat E w (Dec d t :: M) → Q (.tuple #[]) w) (hZ : ∀ w, st.widen = none → Sat E w (Dec d st :: M) → Pan.z [{ v := refd 1, recovered := false }] w) :
    Calls Tryz.prog 185 #[.pointer (some ⟨d, 0, none⟩)] w (retP Q) := by
  refine rcdec_Decoder_widen.calls ?_
  unfold rcdec_Decoder_widen.F
  obtain ⟨s, hS⟩ := Dec.opn hS
  repeat' (first | (refine pN_geq_s ?_ ?_ <;> intro hc <;> try (exfalso; omega)) | refine pIf_t ?_ | refine pIf_f ?_ | refine pN_l hS (by first | rfl | assumption) ?_ | refine pN_v (hk := ?_) | fail)
  · refine hQ st _ (by rw [D.S.widen, if_pos (by omega)]) (Dec.shut (d := d) (s := s) hS st rfl rfl)
  · refine ⟨fun w => st.k < st.b.length ∧ Sat E w (cel d ⟨226, [.slice s.a st.b.length s.c, .int .i64 st.k, .int .u32 st.R, .int .u32 st.C]⟩ :: rows cd_uint8 s st.b :: M), ?_, ?_⟩
    · repeat' (first | refine pN_ifr ?_ | refine pN_pnr ?_ | (refine pA_eql_s ?_ ?_ <;> intro hc <;> try (exfalso; first | omega | exact hc rfl | exact hc (by assumption) | exact absurd hc (by assumption))) | refine pIf_t ?_ | refine pIf_f ?_ | refine pL_l hS (by first | rfl | assumption) ?_ | (refine pDr_go hS ?_; clear hS; intro w hS) | refine pA_v (hk := ?_) | fail)
      · refine hZ _ ?_ (Dec.shut (d := d) (s := s) hS st rfl rfl)
        rw [D.S.widen, if_neg (by omega), List.getElem?_eq_none (by omega)]
      · exact ⟨by omega, hS⟩
    · clear hS
      rintro _ w ⟨hlt, hS⟩
      obtain ⟨x, hx⟩ : ∃ x, st.b[st.k]? = some x := ⟨st.b[st.k]'hlt, by simp⟩
      have hx2 := x.toNat_lt
      repeat' (first | refine pA_orl 256 8 (by decide) (by omega) (by omega) (by omega) ?_ | refine pL_ofb ?_ | refine pN_l hS (by first | rfl | assumption) ?_ | refine pL_l hS (by first | rfl | assumption) ?_ | refine pL_ld1 ha hS ?_ | (refine pN_s hS (by first | exact Nat.le_of_ble_eq_true rfl | assumption) (by rfl) ?_; clear hS; intro w hS; try simp only [List.set_cons_zero, List.set_cons_succ] at hS) | (refine pDr_go hS ?_; clear hS; intro w hS) | refine ⟨trivial, ?_⟩ | refine pA_ixk hS _ (by first | rfl | (exact (Int.toNat_of_nonneg (by omega)).symm)) (by first | rfl | omega | simpa only [go_sem] using True.intro | (simp only [go_sem]; omega)) (by assumption) fun a ha hel => ?_ | refine pN_v (hk := ?_) | refine pA_v (hk := ?_) | fail)
      refine hQ ⟨st.b, st.k + 1, st.R * 256, st.C * 256 + x.toNat⟩ _ (by rw [D.S.widen, if_neg (by omega), hx]) (Dec.shut (d := d) (s := s) hS ⟨st.b, st.k + 1, st.R * 256, st.C * 256 + x.toNat⟩ rfl rfl)

theorem upper_ok (hS : Sat E w (Dec d st :: M)) (c : Int) (c0 : 0 ≤ c) (h1 : st.C < c → True) (r1 : c ≤ st.R) (r2 : st.R < 4294967296) (hC : 0 ≤ st.C) (hC2 : st.C < st.R)
    (hQ : ∀ w, Sat E w (Dec d (st.cut c) :: M) → Q (.bool (decide (¬ st.C < c))) w) :
    Calls Tryz.prog 183 #[.pointer (some ⟨d, 0, none⟩), .int .u32 c] w (retP Q) := by
  refine rcdec_Decoder_upper.calls ?_
  unfold rcdec_Decoder_upper.F
  obtain ⟨s, hS⟩ := Dec.opn hS
  repeat' (first | (refine pN_lss_s ?_ ?_ <;> intro hc <;> try (exfalso; omega)) | refine pIf_t ?_ | refine pIf_f ?_ | refine pN_l hS (by first | rfl | assumption) ?_ | (refine pN_s hS (by first | exact Nat.le_of_ble_eq_true rfl | assumption) (by rfl) ?_; clear hS; intro w hS; try simp only [List.set_cons_zero, List.set_cons_succ] at hS) | refine pN_v (hk := ?_) | fail)
  · rw [decide_eq_false (by omega), D.S.cut, if_pos (by omega)] at hQ
    exact hQ _ (Dec.shut (d := d) (s := s) hS ⟨st.b, st.k, c, st.C⟩ rfl rfl)
  · rw [decide_eq_true (by omega), D.S.cut, if_neg (by omega)] at hQ
    exact hQ _ (Dec.shut (d := d) (s := s) hS ⟨st.b, st.k, st.R - c, st.C - c⟩ rfl rfl)

section
variable [Pan] {K : Value → World → Prop} {xo yo : Operand}
theorem pN_eqn {x : Nat} (hk : K (.bool true) w) : pN Tryz.prog (oBin .eql 20 (.tmp x) (.const .nilIface) .nilIface .nilIface) w K := by
  have : (oBin .eql 20 (.tmp x) (.const .nilIface) .nilIface .nilIface).run Tryz.prog w = .ok (.value (.bool true)) w := by kernel_rfl
  rw [pN_def, this, rN_value]; exact hk
theorem pN_eqr {n : Int} (hk : K (.bool false) w) : pN Tryz.prog (oBin .eql 20 xo yo (refd n) .nilIface) w K := by
  have : (oBin .eql 20 xo yo (refd n) .nilIface).run Tryz.prog w = .ok (.value (.bool false)) w := by kernel_rfl
  rw [pN_def, this, rN_value]; exact hk
theorem pN_asr {n : Int} (hk : K (.tuple #[.int .i64 n, .bool true]) w) : pN Tryz.prog (oAssert (refd n) 20 268 true) w K := by
  have : (oAssert (refd n) 20 268 true).run Tryz.prog w = .ok (.value (.tuple #[.int .i64 n, .bool true])) w := by kernel_rfl
  rw [pN_def, this, rN_value]; exact hk
end

theorem back_nil (hS : Sat E w M) {k R C : Int} (hQ : ∀ w, Sat E w M → Q (.int .i64 0) w) :
    Calls Tryz.prog 181 #[.pointer (some ⟨d, 0, none⟩), .agg #[.int .i64 k, .int .u32 R, .int .u32 C], .nilIface] w (retP Q) := by
  refine rcdec_Decoder_back.calls ?_
  unfold rcdec_Decoder_back.F
  repeat' (first | refine pN_eqn ?_ | refine pIf_t ?_ | (refine pN_bx hS (by rfl) ?_; clear hS; intro a w hS) | fail)
  exact hQ _ hS.to

theorem back_ref (hS : Sat E w (Dec d st :: M)) (k : Nat) (R C e : Int) (hQ : ∀ w, Sat E w (Dec d ⟨st.b, k, R, C⟩ :: M) → Q (.int .i64 e) w) :
    Calls Tryz.prog 181 #[.pointer (some ⟨d, 0, none⟩), .agg #[.int .i64 k, .int .u32 R, .int .u32 C], refd e] w (retP Q) := by
  refine rcdec_Decoder_back.calls ?_
  unfold rcdec_Decoder_back.F
  obtain ⟨s, hS⟩ := Dec.opn hS
  repeat' (first | refine pN_eqr ?_ | refine pN_asr ?_ | (refine pN_sa_at hS (by rfl) (by exact Nat.le_of_ble_eq_true rfl) (by rfl) ?_; clear hS; intro w hS) | refine pIf_f ?_ | refine pN_la hS (by rfl) ?_ | (refine pN_bx hS (by rfl) ?_; clear hS; intro a w hS) | refine pN_v (hk := ?_) | refine ⟨_, ?_, fun _ _ h => h⟩ | fail)
  have hS : Sat E w (cel d ⟨226, [.slice s.a st.b.length s.c, .int .i64 k, .int .u32 R, .int .u32 C]⟩ :: cel a ⟨224, [.int .i64 k, .int .u32 R, .int .u32 C]⟩ :: rows cd_uint8 s st.b :: M) := hS
  have hS : Sat E w (Dec d ⟨st.b, k, R, C⟩ :: cel a ⟨224, [.int .i64 k, .int .u32 R, .int .u32 C]⟩ :: M) := Dec.shut (d := d) (s := s) hS ⟨st.b, k, R, C⟩ rfl rfl
  exact hQ _ hS.to

theorem BitC_idle {p x7 x6 x3 x4 x5 : Nat} {l : List Int} {i bit : Int} {k R C : Int}
    (hS : Sat E w (Dec d st :: PSet p l :: cel x3 ⟨76, [.pointer (some ⟨d, 0, none⟩)]⟩ :: cel x4 ⟨137, [.pointer (some ⟨p, 0, none⟩)]⟩ :: cel x5 ⟨3, [.int .i64 i]⟩ :: cel x6 ⟨3, [.int .i64 bit]⟩ :: cel x7 ⟨38, [.int .i64 0]⟩ :: M))
    (h0 : 0 ≤ i) (h1 : i < l.length)
    (hQ : ∀ w, Sat E w (Dec d st :: PSet p (l.set i.toNat (B.next (l.getD i.toNat 0) bit)) :: cel x3 ⟨76, [.pointer (some ⟨d, 0, none⟩)]⟩ :: cel x4 ⟨137, [.pointer (some ⟨p, 0, none⟩)]⟩ :: cel x5 ⟨3, [.int .i64 i]⟩ :: cel x6 ⟨3, [.int .i64 bit]⟩ :: cel x7 ⟨38, [.int .i64 0]⟩ :: M) → Q (.tuple #[]) w) :
    rcdec_Decoder_Bit_c1.F .nilIface (.agg #[.int .i64 k, .int .u32 R, .int .u32 C]) (.pointer (some ⟨x3, 0, none⟩)) (.pointer (some ⟨x7, 0, none⟩)) (.pointer (some ⟨x6, 0, none⟩)) (.pointer (some ⟨x4, 0, none⟩)) (.pointer (some ⟨x5, 0, none⟩)) w Q := by
  unfold rcdec_Decoder_Bit_c1.F
  repeat' (first | (refine pc_rcdec_Decoder_back (back_nil (d := d) hS ?_); clear hS; intro w hS) | (refine pc_prob_Set_Turn (Turn_ok (hS.fd (PSet p)) i bit ?_); clear hS; intro w hS) | (refine pN_neq_s ?_ ?_ <;> intro hc <;> try (exfalso; first | omega | exact hc rfl | exact hc (by assumption) | exact absurd hc (by assumption))) | refine pIf_f ?_ | refine pN_l hS (by first | rfl | assumption) ?_ | refine pL_l hS (by first | rfl | assumption) ?_ | refine pL_la hS (by rfl) ?_ | (refine pN_s hS (by first | exact Nat.le_of_ble_eq_true rfl | assumption) (by rfl) ?_; clear hS; intro w hS; try simp only [List.set_cons_zero, List.set_cons_succ] at hS) | (refine pDr_go hS ?_; clear hS; intro w hS) | (refine pN_bx hS (by rfl) ?_; clear hS; intro a w hS) | refine ⟨trivial, ?_⟩ | fail)
  simp only [if_pos (show 0 ≤ i ∧ i < l.length from ⟨h0, h1⟩)] at hS
  exact hQ _ hS.to

theorem BitC_ref {p x7 x6 x3 x4 x5 : Nat} {i bit e0 : Int} {k : Nat} {R C e : Int} (he : e ≠ 0)
    (hS : Sat E w (Dec d st :: cel x3 ⟨76, [.pointer (some ⟨d, 0, none⟩)]⟩ :: cel x4 ⟨137, [.pointer (some ⟨p, 0, none⟩)]⟩ :: cel x5 ⟨3, [.int .i64 i]⟩ :: cel x6 ⟨3, [.int .i64 bit]⟩ :: cel x7 ⟨38, [.int .i64 e0]⟩ :: M))
    (hQ : ∀ w, Sat E w (Dec d ⟨st.b, k, R, C⟩ :: cel x3 ⟨76, [.pointer (some ⟨d, 0, none⟩)]⟩ :: cel x4 ⟨137, [.pointer (some ⟨p, 0, none⟩)]⟩ :: cel x5 ⟨3, [.int .i64 i]⟩ :: cel x6 ⟨3, [.int .i64 0]⟩ :: cel x7 ⟨38, [.int .i64 e]⟩ :: M) → Q (.tuple #[]) w) :
    rcdec_Decoder_Bit_c1.F (refd e) (.agg #[.int .i64 k, .int .u32 R, .int .u32 C]) (.pointer (some ⟨x3, 0, none⟩)) (.pointer (some ⟨x7, 0, none⟩)) (.pointer (some ⟨x6, 0, none⟩)) (.pointer (some ⟨x4, 0, none⟩)) (.pointer (some ⟨x5, 0, none⟩)) w Q := by
  unfold rcdec_Decoder_Bit_c1.F
  repeat' (first | (refine pc_rcdec_Decoder_back (back_ref (hS.fd (Dec d)) k R C e ?_); clear hS; intro w hS) | (refine pN_neq_s ?_ ?_ <;> intro hc <;> try (exfalso; first | omega | exact hc rfl | exact hc (by assumption) | exact absurd hc (by assumption))) | refine pIf_t ?_ | refine pN_l hS (by first | rfl | assumption) ?_ | refine pL_l hS (by first | rfl | assumption) ?_ | refine pL_la hS (by rfl) ?_ | (refine pN_s hS (by first | exact Nat.le_of_ble_eq_true rfl | assumption) (by rfl) ?_; clear hS; intro w hS; try simp only [List.set_cons_zero, List.set_cons_succ] at hS) | (refine pDr_go hS ?_; clear hS; intro w hS) | (refine pN_bx hS (by rfl) ?_; clear hS; intro a w hS) | refine ⟨trivial, ?_⟩ | fail)
  exact hQ _ hS.to

theorem DBit_ok {p : Nat} {l : List Int} (hS : Sat E w (Dec d st :: PSet p l :: M)) (ho : D.Ok st) (hf : B.Fine l) (hb : st.b.length ≤ 225000000000000) (i : Int)
    (hno : ¬ (0 ≤ i ∧ i < l.length) → ∀ w, Sat E w (Dec d st :: PSet p l :: M) → Q (.tuple #[.int .i64 0, .int .i64 7]) w)
    (hok : ∀ t v w, 0 ≤ i → i < l.length → st.bit (B.bound st.R (l.getD i.toNat 0)) = .ok t v → Sat E w (Dec d t :: PSet p (l.set i.toNat (B.next (l.getD i.toNat 0) v)) :: M) → Q (.tuple #[.int .i64 v, .int .i64 0]) w)
    (hre : ∀ e w, 0 ≤ i → i < l.length → st.bit (B.bound st.R (l.getD i.toNat 0)) = .no e → Sat E w (Dec d st :: PSet p l :: M) → Q (.tuple #[.int .i64 0, .int .i64 e]) w) :
    Calls Tryz.prog 163 #[.pointer (some ⟨d, 0, none⟩), .pointer (some ⟨p, 0, none⟩), .int .i64 i] w (retP Q) := by
  refine rcdec_Decoder_Bit.calls ?_
  unfold rcdec_Decoder_Bit.F
  by_cases h : 0 ≤ i ∧ i < l.length
  rotate_left 1
  · repeat' (first | (refine pc_prob_Set_At (At_no (hS.fd (PSet p)) i h ?_); clear hS; intro w hS) | (refine pN_neq_s ?_ ?_ <;> intro hc <;> try (exfalso; first | omega | exact hc rfl | exact hc (by assumption) | exact absurd hc (by assumption))) | refine pIf_t ?_ | refine pN_l hS (by first | rfl | assumption) ?_ | refine pL_l hS (by first | rfl | assumption) ?_ | refine pL_r hS (by rfl) ?_ | (refine pN_s hS (by first | exact Nat.le_of_ble_eq_true rfl | assumption) (by rfl) ?_; clear hS; intro w hS; try simp only [List.set_cons_zero, List.set_cons_succ] at hS) | (refine pDr_go hS ?_; clear hS; intro w hS) | (refine pN_nz hS ?_; clear hS; intro a w hS) | (refine pN_bx hS (by rfl) ?_; clear hS; intro a w hS) | refine ⟨trivial, ?_⟩ | refine ⟨⟨(by first | exact run_l hS (by first | rfl | assumption) | exact run_st hS (by first | rfl | omega) | exact run_ld1 ha hS | exact fun _ => run_l hS (by rfl) | exact fun _ => run_st hS (by first | rfl | omega) | exact fun _ => run_ld1 ha hS | exact fun h => Bool.noConfusion h), trivial⟩, ?_⟩ | refine pN_v (hk := ?_) | fail)
    exact hno h _ hS.to
  obtain ⟨x, hx⟩ : ∃ x, l[i.toNat]? = some x := ⟨l[i.toNat]'(by omega), by simp⟩
  have hxe : l.getD i.toNat 0 = x := by rw [List.getD_eq_getElem?_getD, hx]; rfl
  rw [hxe] at hok hre
  have hxf := hf.get hx
  have hmid := D.bound_mid ho.r0 hxf.1 hxf.2
  have q1 := ho.r0
  have q2 := ho.r1
  have q3 := ho.c0
  have q4 := ho.c1
  have hco := ho.cut hmid.1 hmid.2
  repeat' (first | (refine pc_prob_Set_At (At_in (hS.fd (PSet p)) i h.1 hx ?_); clear hS; intro w hS) | (refine pN_neq_s ?_ ?_ <;> intro hc <;> try (exfalso; first | omega | exact hc rfl | exact hc (by assumption) | exact absurd hc (by assumption))) | refine pIf_f ?_ | refine pN_l hS (by first | rfl | assumption) ?_ | (refine pN_s hS (by first | exact Nat.le_of_ble_eq_true rfl | assumption) (by rfl) ?_; clear hS; intro w hS; try simp only [List.set_cons_zero, List.set_cons_succ] at hS) | (refine pN_nz hS ?_; clear hS; intro a w hS) | (refine pN_bx hS (by rfl) ?_; clear hS; intro a w hS) | refine pN_fn ?_ | refine pN_v (hk := ?_) | fail)
  rename_i x3 _ x4 _ x5 _ x6 _ _ _
  clear hc
  revert a
  intro x7 hS
  have hS : Sat E w (Dec d st :: cel x3 ⟨76, [.pointer (some ⟨d, 0, none⟩)]⟩ :: cel x4 ⟨137, [.pointer (some ⟨p, 0, none⟩)]⟩ :: cel x5 ⟨3, [.int .i64 i]⟩ :: cel x6 ⟨3, [.int .i64 0]⟩ :: cel x7 ⟨38, [.int .i64 0]⟩ :: PSet p l :: M) := hS.to
  obtain ⟨s, hS⟩ := Dec.opn hS
  refine pN_la_at hS [.int .i64 st.k, .int .u32 st.R, .int .u32 st.C] rfl rfl ?_
  refine pDf_fn ?_
  let Z : Pan := ⟨fun ch w => ch = [{ v := refd 1, recovered := false }] ∧ (st.cut (B.bound st.R x)).widen = none ∧ ∃ (bit e0 : Int) (st' : D.S), st'.b = st.b ∧ Sat E w (Dec d st' :: cel x3 ⟨76, [.pointer (some ⟨d, 0, none⟩)]⟩ :: cel x4 ⟨137, [.pointer (some ⟨p, 0, none⟩)]⟩ :: cel x5 ⟨3, [.int .i64 i]⟩ :: cel x6 ⟨3, [.int .i64 bit]⟩ :: cel x7 ⟨38, [.int .i64 e0]⟩ :: PSet p l :: M)⟩
  refine ⟨Z, ?_, ?_⟩
  · clear hS
    rintro ch w ⟨rfl, hnone, bit, e0, st', hb', hS⟩
    refine dE_of call_rcdec_Decoder_Bit_c1 (u2 := .panicking [{ v := refd 1, recovered := true }]) (cap := [.pointer (some ⟨x3, 0, none⟩), .pointer (some ⟨x7, 0, none⟩), .pointer (some ⟨x6, 0, none⟩), .pointer (some ⟨x4, 0, none⟩), .pointer (some ⟨x5, 0, none⟩)]) (args := [.agg #[.int .i64 st.k, .int .u32 st.R, .int .u32 st.C]])
      (Q := fun r w => Sat E w (Dec d st :: cel x3 ⟨76, [.pointer (some ⟨d, 0, none⟩)]⟩ :: cel x4 ⟨137, [.pointer (some ⟨p, 0, none⟩)]⟩ :: cel x5 ⟨3, [.int .i64 i]⟩ :: cel x6 ⟨3, [.int .i64 0]⟩ :: cel x7 ⟨38, [.int .i64 1]⟩ :: PSet p l :: M)) rfl ?_ (rcdec_Decoder_Bit_c1.panics (BitC_ref (by decide) hS fun w hS => ?_))
    · clear hS
      rintro _ w hS
      repeat' (first | refine pL_r hS (by rfl) ?_ | fail)
      exact hre 1 _ h.1 h.2 (by rw [D.S.bit, hnone]) hS.to
    · rw [hb'] at hS
      exact hS
  · refine ⟨fun w => Sat E w (Dec d (st.cut (B.bound st.R x)) :: cel x3 ⟨76, [.pointer (some ⟨d, 0, none⟩)]⟩ :: cel x4 ⟨137, [.pointer (some ⟨p, 0, none⟩)]⟩ :: cel x5 ⟨3, [.int .i64 i]⟩ :: cel x6 ⟨3, [.int .i64 (st.bitAt (B.bound st.R x))]⟩ :: cel x7 ⟨38, [.int .i64 0]⟩ :: PSet p l :: M), ?_, ?_⟩
    · repeat' (first | refine pL_l hS (by first | rfl | assumption) ?_ | (refine pDr_go hS ?_; clear hS; intro w hS) | refine pA_v (hk := ?_) | fail)
      refine pc_prob_Bound (Calls.up (Bound_ok st.R x (by omega) (by omega) ?_))
      have hc0 := B.bound_pos (rng := st.R) (p := x) q1 hxf.1
      have hc1 := B.bound_lt (rng := st.R) (p := x) q1
      have hS := Dec.shut (d := d) (s := s) hS st rfl rfl
      have hv : st.bitAt (B.bound st.R x) = if st.C < B.bound st.R x then 0 else 1 := rfl
      repeat' (first | refine ⟨⟨(by first | exact run_l hS (by first | rfl | assumption) | exact run_st hS (by first | rfl | omega) | exact run_ld1 ha hS | exact fun _ => run_l hS (by rfl) | exact fun _ => run_st hS (by first | rfl | omega) | exact fun _ => run_ld1 ha hS | exact fun h => Bool.noConfusion h), trivial⟩, ?_⟩ | fail)
      refine pc_rcdec_Decoder_upper (Calls.up (upper_ok (hS.fd (Dec d)) (B.bound st.R x) (by omega) (fun _ => trivial) (by omega) q2 q3 q4 fun w hS => ?_))
      by_cases hlt : st.C < B.bound st.R x
      · rw [decide_eq_false (by omega)]
        rw [if_pos hlt] at hv
        rw [hv]
        repeat' (first | refine pIf_f ?_ | refine ⟨trivial, ?_⟩ | fail)
        exact hS.to
      · rw [decide_eq_true hlt]
        rw [if_neg hlt] at hv
        rw [hv]
        repeat' (first | refine pIf_t ?_ | (refine pN_s hS (by first | exact Nat.le_of_ble_eq_true rfl | assumption) (by rfl) ?_; clear hS; intro w hS; try simp only [List.set_cons_zero, List.set_cons_succ] at hS) | refine ⟨trivial, ?_⟩ | fail)
        exact hS.to
    · clear hS
      intro _ w hS
      repeat' (first | refine pN_l hS (by first | rfl | assumption) ?_ | fail)
      refine pc_rcdec_Decoder_widen (Dwiden_ok (hS.fd (Dec d)) hco.k (by rw [hco.b]; exact hb) (by have := hco.r0; omega) hco.c0 hco.c1 (fun t w ht hS => ?_) fun w hnone hS => ?_)
      · repeat' (first | refine pN_l hS (by first | rfl | assumption) ?_ | (refine pN_s hS (by first | exact Nat.le_of_ble_eq_true rfl | assumption) (by rfl) ?_; clear hS; intro w hS; try simp only [List.set_cons_zero, List.set_cons_succ] at hS) | fail)
        have hS : Sat E _ (Dec d t :: PSet p l :: cel x3 ⟨76, [.pointer (some ⟨d, 0, none⟩)]⟩ :: cel x4 ⟨137, [.pointer (some ⟨p, 0, none⟩)]⟩ :: cel x5 ⟨3, [.int .i64 i]⟩ :: cel x6 ⟨3, [.int .i64 (st.bitAt (B.bound st.R x))]⟩ :: cel x7 ⟨38, [.int .i64 0]⟩ :: M) := hS.to
        refine dE_of call_rcdec_Decoder_Bit_c1 (u2 := .returning) (cap := [.pointer (some ⟨x3, 0, none⟩), .pointer (some ⟨x7, 0, none⟩), .pointer (some ⟨x6, 0, none⟩), .pointer (some ⟨x4, 0, none⟩), .pointer (some ⟨x5, 0, none⟩)]) (args := [.agg #[.int .i64 st.k, .int .u32 st.R, .int .u32 st.C]])
          (Q := fun r w => Sat E w (Dec d t :: PSet p (l.set i.toNat (B.next x (st.bitAt (B.bound st.R x)))) :: cel x3 ⟨76, [.pointer (some ⟨d, 0, none⟩)]⟩ :: cel x4 ⟨137, [.pointer (some ⟨p, 0, none⟩)]⟩ :: cel x5 ⟨3, [.int .i64 i]⟩ :: cel x6 ⟨3, [.int .i64 (st.bitAt (B.bound st.R x))]⟩ :: cel x7 ⟨38, [.int .i64 0]⟩ :: M)) rfl ?_ (rcdec_Decoder_Bit_c1.idles (BitC_idle hS h.1 h.2 fun w hS => ?_))
        · clear hS
          rintro _ w hS
          repeat' (first | refine pL_r hS (by rfl) ?_ | fail)
          exact hok t _ _ h.1 h.2 (by rw [D.S.bit, ht]) hS.to
        · rw [hxe] at hS
          exact hS
      · exact ⟨rfl, hnone, st.bitAt (B.bound st.R x), 0, st.cut (B.bound st.R x), hco.b, hS⟩
end

end Go.Proofs.YtbgnnjfpiblkmaaGreatDoor

namespace Go.Proofs.YtbgnnjfpiblkmaaGreatDoor
open Go
section
variable [Pan] {P : Program} {t e : TypeId} {z : Value} {size bytes : Nat} {v : Value} {E w : World} {L M : List HA} {K : Value → World → Prop}

theorem pN_append_wide (ht : SlT P t e z size bytes) {ty : TypeId} {cs : List Bool} {n m : Nat} {xs news : List Value} {src : Value} (hS : Sat E w (own e size v n xs :: L)) (hr : Rd w size src m news) (h1 : ∀ u ∈ news, u.oneCell' = true)
    (hb : ((n + m) + (n + m) / 4 + 192) * bytes ≤ 281474976710656) (h63 : n + m ≤ 9223372036854775807)
    (h : ∀ v' w', Sat E w' (own e size v' (n + m) (xs ++ news) :: L) → K v' w') : pN P (oBi .append #[t, t] ty cs [v, src]) w K := by
  obtain ⟨i, hi, hz, hs, hby⟩ := ht.info
  obtain ⟨hl, ao, cap, rfl, hmc, hnil, hc⟩ := hr
  have hown := hS.own_at 0 rfl
  rw [pN_def]
  cases ao with
  | none =>
    obtain ⟨rfl, rfl⟩ := hnil rfl
    have hrun := run_append_owned_none (P := P) w 0 t ty e i size ht.under hi v n xs hown
    have : news = [] := List.length_eq_zero_iff.1 (by simpa using hl)
    subst this
    have e : (oBi .append #[t, t] ty cs [v, .slice none 0 0]).run P w = .ok (.value v) w := run_oV_ok hrun
    rw [e]
    exact h _ _ (by simpa using hS)
  | some a =>
    obtain ⟨v', w', hrun, hown', hgr, hni⟩ := run_append_own_wide (P := P) w 0 t ty e i z size bytes ht.under hi hz hs hby ht.zsize ht.pos v n xs hown a m cap news hl (hc a rfl) h1 (by unfold maxLen; omega) hb (Nat.zero_le _)
    have hblk : v'.ownBlock = v.ownBlock ∨ v'.ownBlock = some w.heap.size := by
      subst hs hby
      rcases hown.2 with ⟨rfl, rfl⟩ | ⟨g, c, cur, rfl, _, hg, _, _, hcs, _⟩
      · by_cases hm : m = 0
        · left
          rw [hni.2 ⟨rfl, hm⟩]
        · right
          have hx : xs = [] := List.eq_nil_of_length_eq_zero (by simpa using hown.1)
          have hr := run_append_nil (P := P) w t ty e i z ht.under hi hz a m cap news hl (hc a rfl) (by omega) (by omega) (by have hb := hb; simp only [Nat.zero_add] at hb; exact Nat.le_trans (Nat.mul_le_mul_right _ (by omega)) hb)
          have := hr.symm.trans hrun
          injection this with h1 h2
          rw [← h1]; rfl
      · by_cases hroom : n + m ≤ c
        · left
          have hfit : n * i.size + news.length ≤ cur.size := by rw [hl, hcs, ← Nat.add_mul]; exact Nat.mul_le_mul_right _ hroom
          have hr := run_append_room (P := P) w t ty e i ht.under hi g n c cur hg a m cap news hl (hc a rfl) h1 hroom hfit
          have := hr.symm.trans hrun
          injection this with h1 h2
          rw [← h1]; rfl
        · right
          have holds : ∀ j u, xs[j]? = some u → w.cell? ((⟨g, 0, none⟩ : Addr).add j) = some u := hown.cells (g := g) rfl
          have hr := run_append_grow (P := P) w t ty e i z ht.under hi hz ⟨g, 0, none⟩ n c xs hown.1 holds a m cap news hl (hc a rfl) (by omega) (by omega) (growslice_fits_wide (by omega) hb)
          have := hr.symm.trans hrun
          injection this with h1 h2
          rw [← h1]; rfl
    have e : (oBi .append #[t, t] ty cs [v, .slice (some a) m cap]).run P w = .ok (.value v') w' := run_oV_ok hrun
    rw [e]
    exact h _ _ (hS.grown hgr hown' hblk)
end

section
variable [Pan] {P : Program} {t ty : TypeId} {α : Type} {C : Cd α} {E w : World} {L M : List HA} {s s2 : Sl} {l m : List α} {n n2 : Nat} {K : Value → World → Prop}
theorem pN_appw {cs : List Bool} (hS : Sat E w L) [hw : Row P t α C] [hf : Fnd (rows C s) L l M] [hr : Rds C L s2 m] {z : Nat} [hz : Bt C z] (hn : n = l.length) (hn2 : n2 = m.length) (hb : ((l.length + m.length) + (l.length + m.length) / 4 + 192) * z ≤ 281474976710656)
    (hk : ∀ s' w', Sat E w' (rows C s' (l ++ m) :: M) → K (.slice s'.a (l ++ m).length s'.c) w') : pN P (oBi .append #[t, t] ty cs [.slice s.a n s.c, .slice s2.a n2 s2.c]) w K := by
  subst hn hn2
  rw [← hz.eq] at hb
  have h0 := hS.fd (rows C s)
  have hrd := hS.rds (C := C) (s := s2)
  have hp := hw.bpos
  have h63 : l.length + m.length ≤ 9223372036854775807 := by
    have : (l.length + m.length + (l.length + m.length) / 4 + 192) * 1 ≤ (l.length + m.length + (l.length + m.length) / 4 + 192) * C.bytes := Nat.mul_le_mul_left _ hp
    omega
  refine pN_append_wide Row.slt h0 hrd (C.flat_one m) hb h63 fun v' w' h1 => ?_
  obtain ⟨s', rfl⟩ := own_sl h1
  rw [← C.flat_append, ← List.length_append] at h1
  rw [← List.length_append]
  exact hk s' w' h1
theorem pN_appw0 {cs : List Bool} (hS : Sat E w L) [hw : Row P t α C] [hr : Rds C L s2 m] {z : Nat} [hz : Bt C z] (hn2 : n2 = m.length) (hb : (m.length + m.length / 4 + 192) * z ≤ 281474976710656)
    (hk : ∀ s' w', Sat E w' (rows C s' m :: L) → K (.slice s'.a m.length s'.c) w') : pN P (oBi .append #[t, t] ty cs [.slice none 0 0, .slice s2.a n2 s2.c]) w K := by
  have h0 : Sat E w (rows C ⟨none, 0⟩ [] :: L) := hS.nil C.e C.size
  haveI : Rds C (rows C ⟨none, 0⟩ [] :: L) s2 m := ⟨fun E w hS => hr.rd E w hS.drop⟩
  refine pN_appw (s := ⟨none, 0⟩) (l := []) h0 rfl hn2 (by simpa using hb) fun s' w' h => ?_
  rw [List.nil_append] at h ⊢
  exact hk s' w' h
end

end Go.Proofs.YtbgnnjfpiblkmaaGreatDoor

namespace Go.Proofs.YtbgnnjfpiblkmaaGreatDoor
open Go
attribute [local irreducible] oMv oV oU oCall oCallV oBi oBin oUn oLoad oStore oNil oFld oField oIdx oIndex oPick oAlloc oBox oBuild oBs oConv oMk oSl oExt oFn oIface oMap oLook oMapUp oRange oNext oEntry oInv oAssert oPanic oRes pN pA pL pDr pIf gA pGd
attribute [local irreducible] oDf pDf dE

section
variable {E w : World} {M : List HA} {Q : Value → World → Prop} {d : Nat} {st : D.S}

theorem DirC_idle {x2 x4 x5 : Nat} {v : Int} {k R C : Int}
    (hS : Sat E w (Dec d st :: cel x2 ⟨76, [.pointer (some ⟨d, 0, none⟩)]⟩ :: cel x4 ⟨148, [.int .u32 v]⟩ :: cel x5 ⟨38, [.int .i64 0]⟩ :: M))
    (hQ : ∀ w, Sat E w (Dec d st :: cel x2 ⟨76, [.pointer (some ⟨d, 0, none⟩)]⟩ :: cel x4 ⟨148, [.int .u32 v]⟩ :: cel x5 ⟨38, [.int .i64 0]⟩ :: M) → Q (.tuple #[]) w) :
    rcdec_Decoder_Direct_c1.F .nilIface (.agg #[.int .i64 k, .int .u32 R, .int .u32 C]) (.pointer (some ⟨x2, 0, none⟩)) (.pointer (some ⟨x5, 0, none⟩)) (.pointer (some ⟨x4, 0, none⟩)) w Q := by
  unfold rcdec_Decoder_Direct_c1.F
  repeat' (first | (refine pc_rcdec_Decoder_back (back_nil (d := d) hS ?_); clear hS; intro w hS) | (refine pN_neq_s ?_ ?_ <;> intro hc <;> try (exfalso; first | omega | exact hc rfl | exact hc (by assumption) | exact absurd hc (by assumption))) | refine pIf_f ?_ | refine pN_l hS (by first | rfl | assumption) ?_ | refine pL_l hS (by first | rfl | assumption) ?_ | refine pL_la hS (by rfl) ?_ | (refine pN_s hS (by first | exact Nat.le_of_ble_eq_true rfl | assumption) (by rfl) ?_; clear hS; intro w hS; try simp only [List.set_cons_zero, List.set_cons_succ] at hS) | (refine pDr_go hS ?_; clear hS; intro w hS) | (refine pN_bx hS (by rfl) ?_; clear hS; intro a w hS) | refine ⟨trivial, ?_⟩ | fail)
  exact hQ _ hS.to

theorem DirC_ref {x2 x4 x5 : Nat} {v e0 : Int} {k : Nat} {R C e : Int} (he : e ≠ 0)
    (hS : Sat E w (Dec d st :: cel x2 ⟨76, [.pointer (some ⟨d, 0, none⟩)]⟩ :: cel x4 ⟨148, [.int .u32 v]⟩ :: cel x5 ⟨38, [.int .i64 e0]⟩ :: M))
    (hQ : ∀ w, Sat E w (Dec d ⟨st.b, k, R, C⟩ :: cel x2 ⟨76, [.pointer (some ⟨d, 0, none⟩)]⟩ :: cel x4 ⟨148, [.int .u32 0]⟩ :: cel x5 ⟨38, [.int .i64 e]⟩ :: M) → Q (.tuple #[]) w) :
    rcdec_Decoder_Direct_c1.F (refd e) (.agg #[.int .i64 k, .int .u32 R, .int .u32 C]) (.pointer (some ⟨x2, 0, none⟩)) (.pointer (some ⟨x5, 0, none⟩)) (.pointer (some ⟨x4, 0, none⟩)) w Q := by
  unfold rcdec_Decoder_Direct_c1.F
  repeat' (first | (refine pc_rcdec_Decoder_back (back_ref (hS.fd (Dec d)) k R C e ?_); clear hS; intro w hS) | (refine pN_neq_s ?_ ?_ <;> intro hc <;> try (exfalso; first | omega | exact hc rfl | exact hc (by assumption) | exact absurd hc (by assumption))) | refine pIf_t ?_ | refine pN_l hS (by first | rfl | assumption) ?_ | refine pL_l hS (by first | rfl | assumption) ?_ | refine pL_la hS (by rfl) ?_ | (refine pN_s hS (by first | exact Nat.le_of_ble_eq_true rfl | assumption) (by rfl) ?_; clear hS; intro w hS; try simp only [List.set_cons_zero, List.set_cons_succ] at hS) | (refine pDr_go hS ?_; clear hS; intro w hS) | (refine pN_bx hS (by rfl) ?_; clear hS; intro a w hS) | refine ⟨trivial, ?_⟩ | fail)
  exact hQ _ hS.to

set_option maxHeartbeats 2000000 in
theorem DDirect_ok (hS : Sat E w (Dec d st :: M)) (ho : D.Ok st) (hb : st.b.length ≤ 225000000000000) (n : Int)
    (hno : ¬ (0 ≤ n ∧ n ≤ 32) → ∀ w, Sat E w (Dec d st :: M) → Q (.tuple #[.int .u32 0, .int .i64 7]) w)
    (hok : ∀ t v w, 0 ≤ n → n ≤ 32 → st.direct 0 n.toNat = .ok t v → Sat E w (Dec d t :: M) → Q (.tuple #[.int .u32 v, .int .i64 0]) w)
    (hre : ∀ e w, 0 ≤ n → n ≤ 32 → st.direct 0 n.toNat = .no e → Sat E w (Dec d st :: M) → Q (.tuple #[.int .u32 0, .int .i64 e]) w) :
    Calls Tryz.prog 166 #[.pointer (some ⟨d, 0, none⟩), .int .i64 n] w (retP Q) := by
  refine rcdec_Decoder_Direct.calls ?_
  unfold rcdec_Decoder_Direct.F
  by_cases h : 0 ≤ n ∧ n ≤ 32
  rotate_left 1
  · repeat' (first | ((first | refine pN_lss_s ?_ ?_ | refine pN_gtr_s ?_ ?_) <;> intro hc <;> try (exfalso; omega)) | refine pIf_t ?_ | refine pGd_go (by rfl) ?_ | refine pGd_no (by rfl) ?_ | refine pL_r hS (by rfl) ?_ | (refine pN_s hS (by first | exact Nat.le_of_ble_eq_true rfl | assumption) (by rfl) ?_; clear hS; intro w hS; try simp only [List.set_cons_zero, List.set_cons_succ] at hS) | (refine pN_nz hS ?_; clear hS; intro a w hS) | (refine pN_bx hS (by rfl) ?_; clear hS; intro a w hS) | refine pN_v (hk := ?_) | fail)
    all_goals exact hno h _ hS.to
  obtain ⟨m, rfl⟩ : ∃ m : Nat, n = m := ⟨n.toNat, by omega⟩
  rw [Int.toNat_natCast] at hok hre
  repeat' (first | ((first | refine pN_lss_s ?_ ?_ | refine pN_gtr_s ?_ ?_) <;> intro hc <;> try (exfalso; omega)) | refine pIf_f ?_ | refine pGd_go (by rfl) ?_ | refine pN_l hS (by first | rfl | assumption) ?_ | (refine pN_nz hS ?_; clear hS; intro a w hS) | (refine pN_bx hS (by rfl) ?_; clear hS; intro a w hS) | refine pN_fn ?_ | refine pN_v (hk := ?_) | fail)
  rename_i x2 _ x4 _ _
  revert a
  intro x5 hS
  have hS : Sat E w (Dec d st :: cel x2 ⟨76, [.pointer (some ⟨d, 0, none⟩)]⟩ :: cel x4 ⟨148, [.int .u32 0]⟩ :: cel x5 ⟨38, [.int .i64 0]⟩ :: M) := hS.to
  obtain ⟨s, hS⟩ := Dec.opn hS
  refine pN_la_at hS [.int .i64 st.k, .int .u32 st.R, .int .u32 st.C] rfl rfl ?_
  refine pDf_fn ?_
  let Z : Pan := ⟨fun ch w => ∃ (e : Int), ch = [{ v := refd e, recovered := false }] ∧ e ≠ 0 ∧ st.direct 0 m = .no e ∧ ∃ (v e0 : Int) (st' : D.S), st'.b = st.b ∧ Sat E w (Dec d st' :: cel x2 ⟨76, [.pointer (some ⟨d, 0, none⟩)]⟩ :: cel x4 ⟨148, [.int .u32 v]⟩ :: cel x5 ⟨38, [.int .i64 e0]⟩ :: M)⟩
  refine ⟨Z, ?_, ?_⟩
  · clear hS
    rintro ch w ⟨e, rfl, hne, hnone, v, e0, st', hb', hS⟩
    refine dE_of call_rcdec_Decoder_Direct_c1 (u2 := .panicking [{ v := refd e, recovered := true }]) (cap := [.pointer (some ⟨x2, 0, none⟩), .pointer (some ⟨x5, 0, none⟩), .pointer (some ⟨x4, 0, none⟩)]) (args := [.agg #[.int .i64 st.k, .int .u32 st.R, .int .u32 st.C]])
      (Q := fun r w => Sat E w (Dec d st :: cel x2 ⟨76, [.pointer (some ⟨d, 0, none⟩)]⟩ :: cel x4 ⟨148, [.int .u32 0]⟩ :: cel x5 ⟨38, [.int .i64 e]⟩ :: M)) rfl ?_ (rcdec_Decoder_Direct_c1.panics (DirC_ref hne hS fun w hS => ?_))
    · clear hS
      rintro _ w hS
      repeat' (first | refine pL_r hS (by rfl) ?_ | fail)
      exact hre e _ h.1 h.2 hnone hS.to
    · rw [hb'] at hS
      exact hS
  · have hS : Sat E w (Dec d st :: cel x2 ⟨76, [.pointer (some ⟨d, 0, none⟩)]⟩ :: cel x4 ⟨148, [.int .u32 0]⟩ :: cel x5 ⟨38, [.int .i64 0]⟩ :: M) := Dec.shut (d := d) (s := s) hS st rfl rfl
    refine ⟨fun i w => ∃ (j : Nat) (t : D.S) (v : Int), i = .int .i64 j ∧ j ≤ m ∧ D.Ok t ∧ t.b = st.b ∧ 0 ≤ v ∧ v < 2 ^ j ∧ t.direct v (m - j) = st.direct 0 m ∧ Sat E w (Dec d t :: cel x2 ⟨76, [.pointer (some ⟨d, 0, none⟩)]⟩ :: cel x4 ⟨148, [.int .u32 v]⟩ :: cel x5 ⟨38, [.int .i64 0]⟩ :: M), fun i _ => m - (RowKit.intOf i).toNat, ⟨0, st, 0, rfl, Nat.zero_le _, ho, rfl, by omega, by simp, rfl, hS⟩, ?_⟩
    clear hS
    rintro _ _ w ⟨j, t, v, rfl, hj, hot, htb, v0, v1, htd, hS⟩
    by_cases hlt : j < m
    · rw [show m - j = (m - (j + 1)) + 1 from by omega, D.S.direct] at htd
      have h32 : (2 : Int) ^ j ≤ 2147483648 := by
        have : (2 : Int) ^ 31 = 2147483648 := by decide
        rw [← this]
        exact R.two_le (by omega)
      have q0 := hot.r0
      have q1 := hot.r1
      have q2 := hot.c0
      have q3 := hot.c1
      have one := hot.one
      have o1 := one.c1
      have hbit : t.bitAt (t.R / 2) = if t.C < t.R / 2 then 0 else 1 := rfl
      have e1 : t.one = if t.C < t.R / 2 then ⟨t.b, t.k, t.R / 2, t.C⟩ else ⟨t.b, t.k, t.R / 2, t.C - t.R / 2⟩ := rfl
      have oR : t.one.R = t.R / 2 := by rw [e1]; split <;> rfl
      have ok : t.one.k = t.k := by rw [e1]; split <;> rfl
      obtain ⟨s, hS⟩ := Dec.opn hS
      repeat' (first | (refine pN_lss_s ?_ ?_ <;> intro hc <;> try (exfalso; omega)) | refine pIf_t ?_ | fail)
      refine ⟨fun w => ∃ t2 : D.S, t.one.widen = some t2 ∧ ¬ t.one.R ≤ t.one.C ∧ Sat E w (Dec d t2 :: cel x2 ⟨76, [.pointer (some ⟨d, 0, none⟩)]⟩ :: cel x4 ⟨148, [.int .u32 (2 * v + t.bitAt (t.R / 2))]⟩ :: cel x5 ⟨38, [.int .i64 0]⟩ :: M), ?_, ?_⟩
      rotate_left 1
      · clear hS
        rintro _ w ⟨t2, ht2, hnle, hS⟩
        rw [if_neg hnle, ht2] at htd
        have ho2 := one.widen (by omega) ht2
        have hb01 := D.bitAt_01 t (t.R / 2)
        repeat' (first | refine pN_v (hk := ?_) | fail)
        refine ⟨⟨j + 1, t2, 2 * v + t.bitAt (t.R / 2), rfl, by omega, ho2.1, ho2.2.trans htb, by omega, by rw [Int.pow_succ]; omega, htd, hS.to⟩, by simp [RowKit.intOf] <;> omega⟩
      repeat' (first | refine pN_l hS (by first | rfl | assumption) ?_ | (refine pN_s hS (by first | exact Nat.le_of_ble_eq_true rfl | assumption) (by rfl) ?_; clear hS; intro w hS; try simp only [List.set_cons_zero, List.set_cons_succ] at hS) | refine pN_v (hk := ?_) | fail)
      refine ⟨fun w => Sat E w (cel d ⟨226, [.slice s.a t.b.length s.c, .int .i64 t.k, .int .u32 t.R, .int .u32 t.one.C]⟩ :: rows cd_uint8 s t.b :: cel x2 ⟨76, [.pointer (some ⟨d, 0, none⟩)]⟩ :: cel x4 ⟨148, [.int .u32 (2 * v + t.bitAt (t.R / 2))]⟩ :: cel x5 ⟨38, [.int .i64 0]⟩ :: M), ?_, ?_⟩
      · by_cases hge : t.C < t.R / 2
        · rw [if_pos hge] at hbit e1
          have e2 : 2 * v + t.bitAt (t.R / 2) = v * 2 := by omega
          rw [e2, e1]
          repeat' (first | (refine pN_geq_s ?_ ?_ <;> intro hc <;> try (exfalso; omega)) | refine pIf_f ?_ | refine pN_l hS (by first | rfl | assumption) ?_ | refine pN_v (hk := ?_) | fail)
          exact hS.to
        · rw [if_neg hge] at hbit e1
          have e2 : 2 * v + t.bitAt (t.R / 2) = v * 2 + 1 := by omega
          rw [e2, e1]
          repeat' (first | refine pN_orl 2 1 (by decide) (by omega) (by omega) (by omega) ?_ | (refine pN_geq_s ?_ ?_ <;> intro hc <;> try (exfalso; omega)) | refine pIf_t ?_ | refine pN_l hS (by first | rfl | assumption) ?_ | (refine pN_s hS (by first | exact Nat.le_of_ble_eq_true rfl | assumption) (by rfl) ?_; clear hS; intro w hS; try simp only [List.set_cons_zero, List.set_cons_succ] at hS) | refine pN_v (hk := ?_) | fail)
          exact hS.to
      clear hS
      intro _ w hS
      skip
      refine ⟨fun w => ¬ t.one.R ≤ t.one.C ∧ Sat E w (cel d ⟨226, [.slice s.a t.b.length s.c, .int .i64 t.k, .int .u32 t.R, .int .u32 t.one.C]⟩ :: rows cd_uint8 s t.b :: cel x2 ⟨76, [.pointer (some ⟨d, 0, none⟩)]⟩ :: cel x4 ⟨148, [.int .u32 (2 * v + t.bitAt (t.R / 2))]⟩ :: cel x5 ⟨38, [.int .i64 0]⟩ :: M), ?_, ?_⟩
      · repeat' (first | refine pN_ifr ?_ | refine pN_pnr ?_ | (refine pN_eql_s ?_ ?_ <;> intro hc <;> try (exfalso; first | omega | exact hc rfl | exact hc (by assumption) | exact absurd hc (by assumption))) | refine pIf_t ?_ | refine pIf_f ?_ | refine pN_l hS (by first | rfl | assumption) ?_ | refine pN_v (hk := ?_) | fail)
        · have hS : Sat E w (Dec d ⟨t.b, t.k, t.R, t.one.C⟩ :: cel x2 ⟨76, [.pointer (some ⟨d, 0, none⟩)]⟩ :: cel x4 ⟨148, [.int .u32 (2 * v + t.bitAt (t.R / 2))]⟩ :: cel x5 ⟨38, [.int .i64 0]⟩ :: M) := Dec.shut (d := d) (s := s) hS ⟨t.b, t.k, t.R, t.one.C⟩ rfl rfl
          refine ⟨2, rfl, by decide, ?_, 2 * v + t.bitAt (t.R / 2), 0, ⟨t.b, t.k, t.R, t.one.C⟩, htb, hS⟩
          rw [← htd, if_pos (by omega)]
        · exact ⟨by omega, hS.to⟩
      clear hS
      rintro _ w ⟨hnle, hS⟩
      repeat' (first | refine pN_l hS (by first | rfl | assumption) ?_ | (refine pN_s hS (by first | exact Nat.le_of_ble_eq_true rfl | assumption) (by rfl) ?_; clear hS; intro w hS; try simp only [List.set_cons_zero, List.set_cons_succ] at hS) | refine pN_v (hk := ?_) | fail)
      have e3 : (⟨t.b, t.k, t.R / 2, t.one.C⟩ : D.S) = t.one := by rw [e1]; split <;> rfl
      have hS : Sat E w (Dec d ⟨t.b, t.k, t.R / 2, t.one.C⟩ :: cel x2 ⟨76, [.pointer (some ⟨d, 0, none⟩)]⟩ :: cel x4 ⟨148, [.int .u32 (2 * v + t.bitAt (t.R / 2))]⟩ :: cel x5 ⟨38, [.int .i64 0]⟩ :: M) := Dec.shut (d := d) (s := s) hS ⟨t.b, t.k, t.R / 2, t.one.C⟩ rfl rfl
      rw [e3] at hS
      have ob := one.b
      have o0 := one.r0
      have oc := one.c0
      refine pc_rcdec_Decoder_widen (Dwiden_ok hS one.k (by rw [ob, htb]; exact hb) (by omega) oc (by omega) (fun t2 w ht2 hS => ?_) fun w hnone hS => ?_)
      · exact ⟨t2, ht2, hnle, hS⟩
      · refine ⟨1, rfl, by decide, ?_, 2 * v + t.bitAt (t.R / 2), 0, t.one, ob.trans htb, hS⟩
        rw [← htd, if_neg hnle, hnone]
    · obtain rfl : j = m := by omega
      rw [Nat.sub_self, D.S.direct] at htd
      repeat' (first | (refine pN_lss_s ?_ ?_ <;> intro hc <;> try (exfalso; omega)) | refine pIf_f ?_ | refine pN_l hS (by first | rfl | assumption) ?_ | (refine pN_s hS (by first | exact Nat.le_of_ble_eq_true rfl | assumption) (by rfl) ?_; clear hS; intro w hS; try simp only [List.set_cons_zero, List.set_cons_succ] at hS) | fail)
      have hS : Sat E _ (Dec d t :: cel x2 ⟨76, [.pointer (some ⟨d, 0, none⟩)]⟩ :: cel x4 ⟨148, [.int .u32 v]⟩ :: cel x5 ⟨38, [.int .i64 0]⟩ :: M) := hS.to
      refine dE_of call_rcdec_Decoder_Direct_c1 (u2 := .returning) (cap := [.pointer (some ⟨x2, 0, none⟩), .pointer (some ⟨x5, 0, none⟩), .pointer (some ⟨x4, 0, none⟩)]) (args := [.agg #[.int .i64 st.k, .int .u32 st.R, .int .u32 st.C]])
        (Q := fun r w => Sat E w (Dec d t :: cel x2 ⟨76, [.pointer (some ⟨d, 0, none⟩)]⟩ :: cel x4 ⟨148, [.int .u32 v]⟩ :: cel x5 ⟨38, [.int .i64 0]⟩ :: M)) rfl ?_ (rcdec_Decoder_Direct_c1.idles (DirC_idle hS fun w hS => hS))
      clear hS
      rintro _ w hS
      repeat' (first | refine pL_r hS (by rfl) ?_ | fail)
      exact hok t v _ h.1 h.2 htd.symm hS.to

theorem Done_ok (hS : Sat E w (Dec d st :: M)) (hQ : ∀ w, Sat E w (Dec d st :: M) → Q (.bool (decide (st.k = st.b.length ∧ st.C = 0))) w) : Calls Tryz.prog 90 #[.pointer (some ⟨d, 0, none⟩)] w (retP Q) := by
  refine rcdec_Decoder_Done.calls ?_
  unfold rcdec_Decoder_Done.F
  obtain ⟨s, hS⟩ := Dec.opn hS
  have hQ := fun w h => hQ w (Dec.shut (d := d) (s := s) (L := cel d ⟨226, [.slice s.a st.b.length s.c, .int .i64 st.k, .int .u32 st.R, .int .u32 st.C]⟩ :: rows cd_uint8 s st.b :: M) h st rfl rfl)
  by_cases h1 : st.k = st.b.length
  · by_cases h2 : st.C = 0
    · rw [decide_eq_true ⟨h1, h2⟩] at hQ
      repeat' (first | (refine pA_eql_s ?_ ?_ <;> intro hc <;> try (exfalso; first | omega | exact hc rfl | exact hc (by assumption) | exact absurd hc (by assumption))) | refine gA_go (by rfl) ?_ | refine pL_l hS (by first | rfl | assumption) ?_ | (refine pDr_go hS ?_; clear hS; intro w hS) | refine pA_v (hk := ?_) | fail)
      exact hQ _ hS
    · rw [decide_eq_false (fun h => h2 h.2)] at hQ
      repeat' (first | (refine pA_eql_s ?_ ?_ <;> intro hc <;> try (exfalso; first | omega | exact hc rfl | exact hc (by assumption) | exact absurd hc (by assumption))) | refine gA_go (by rfl) ?_ | refine pL_l hS (by first | rfl | assumption) ?_ | (refine pDr_go hS ?_; clear hS; intro w hS) | refine pA_v (hk := ?_) | fail)
      exact hQ _ hS
  · rw [decide_eq_false (fun h => h1 h.1)] at hQ
    repeat' (first | (refine pA_eql_s ?_ ?_ <;> intro hc <;> try (exfalso; first | omega | exact hc rfl | exact hc (by assumption) | exact absurd hc (by assumption))) | refine gA_no (by rfl) ?_ | refine pL_l hS (by first | rfl | assumption) ?_ | (refine pDr_go hS ?_; clear hS; intro w hS) | refine pA_v (hk := ?_) | fail)
    exact hQ _ hS

theorem pN_bdd [Pan] {K : Value → World → Prop} {a : Option Addr} {n c : Nat} {x y z : Int} (hk : K (.agg #[.slice a n c, .int .i64 x, .int .u32 y, .int .u32 z]) w) : pN Tryz.prog (oBuild 226 [(0, .slice a n c), (1, .agg #[.int .i64 x, .int .u32 y, .int .u32 z])]) w K := by
  have : (oBuild 226 [(0, .slice a n c), (1, .agg #[.int .i64 x, .int .u32 y, .int .u32 z])]).run Tryz.prog w = .ok (.value (.agg #[.slice a n c, .int .i64 x, .int .u32 y, .int .u32 z])) w := by kernel_rfl
  rw [pN_def, this, rN_value]; exact hk

theorem DNew_ok {s0 : Sl} {l : List UInt8} (hS : Sat E w M) [hr : Rds cd_uint8 M s0 l] (hb : l.length ≤ 225000000000000)
    (hok : ∀ t d w, D.start l = .ok t () → Sat E w (Dec d t :: M) → Q (.tuple #[.pointer (some ⟨d, 0, none⟩), .int .i64 0]) w)
    (hre : ∀ e w, D.start l = .no e → Sat E w M → Q (.tuple #[.pointer none, .int .i64 e]) w) :
    Calls Tryz.prog 87 #[.slice s0.a l.length s0.c] w (retP Q) := by
  refine rcdec_New.calls ?_
  unfold rcdec_New.F
  by_cases h5 : l.length < 5
  · repeat' (first | (refine pN_lss_s ?_ ?_ <;> intro hc <;> try (exfalso; omega)) | refine pIf_t ?_ | refine pN_v (hk := ?_) | fail)
    exact hre 1 _ (by rw [D.start, if_pos h5]) hS
  obtain ⟨b0, hb0⟩ : ∃ x, l[0]? = some x := ⟨l[0]'(by omega), by simp⟩
  repeat' (first | (refine pN_appw0 hS rfl (by omega) ?_; clear hS; intro s w hS) | (refine pN_lss_s ?_ ?_ <;> intro hc <;> try (exfalso; omega)) | refine pIf_f ?_ | (refine pN_bx hS (by rfl) ?_; clear hS; intro a w hS) | refine pN_v (hk := ?_) | fail)
  try refine pN_bdd ?_
  skip
  revert a
  intro bd hS
  refine pN_sl2 hS 1 5 rfl rfl rfl (by omega) (by omega) fun s4 hp => ?_
  have hr4 : ∀ (L : List HA) [Rds cd_uint8 L s0 l], Rds cd_uint8 L s4 ((l.drop 1).take (5 - 1)) := fun L h => hp.rd L h
  have hl4 : ((l.drop 1).take (5 - 1)).length = 4 := by rw [List.length_take, List.length_drop]; omega
  repeat' (first | refine pN_v (hk := ?_) | fail)
  refine ⟨fun v w => ∃ i : Nat, v = .int .i64 i ∧ i ≤ 4 ∧ Sat E w (cel bd ⟨226, [.slice s.a l.length s.c, .int .i64 5, .int .u32 4294967295, .int .u32 (D.front l i)]⟩ :: rows cd_uint8 s l :: M), fun v _ => 4 - (RowKit.intOf v).toNat, ⟨0, rfl, by omega, by rw [D.front_0]; exact hS⟩, ?_⟩
  clear hS
  rintro _ _ w ⟨i, rfl, hi, hS⟩
  by_cases hlt : i < 4
  · obtain ⟨x, hx0⟩ : ∃ x, l[i + 1]? = some x := ⟨l[i + 1]'(by omega), by simp⟩
    have hx : ((l.drop 1).take (5 - 1))[i]? = some x := by rw [List.getElem?_take, if_pos (by omega), List.getElem?_drop, Nat.add_comm]; exact hx0
    have hx2 := x.toNat_lt
    have hfs := D.front_succ l i hx0
    have hf3 := D.front_lt l i (by omega)
    repeat' (first | refine pN_orl 256 8 (by decide) (by omega) (by omega) (by omega) ?_ | (refine pN_lss_s ?_ ?_ <;> intro hc <;> try (exfalso; omega)) | refine pIf_t ?_ | refine pN_ofb ?_ | refine pN_l hS (by first | rfl | assumption) ?_ | refine pN_ld1 ha hS ?_ | (refine pN_s hS (by first | exact Nat.le_of_ble_eq_true rfl | assumption) (by rfl) ?_; clear hS; intro w hS; try simp only [List.set_cons_zero, List.set_cons_succ] at hS) | refine pN_ixk hS _ (by first | rfl | (exact (Int.toNat_of_nonneg (by omega)).symm)) (by first | rfl | omega | simpa only [go_sem] using True.intro | (simp only [go_sem]; omega)) (by assumption) fun a ha hel => ?_ | refine pN_v (hk := ?_) | fail)
    rw [← hfs] at hS
    exact ⟨⟨i + 1, rfl, by omega, hS⟩, by simp [RowKit.intOf] <;> omega⟩
  · obtain rfl : i = 4 := by omega
    have hf4 := D.front_bd l 4 (by omega)
    have h4 : (256 : Int) ^ 4 = 4294967296 := by decide
    have hbe : b0 = 0 ↔ (b0.toNat : Int) = ((0 : UInt8).toNat : Int) := ⟨fun e => by rw [e], fun e => UInt8.toNat_inj.1 (by omega)⟩
    have hst : D.start l = if b0 ≠ 0 ∨ D.front l 4 = 4294967295 then .no 2 else .ok ⟨l, 5, 4294967295, D.front l 4⟩ () := by
      rw [D.start, if_neg h5, hb0]; simp
    repeat' (first | (refine pN_lss_s ?_ ?_ <;> intro hc <;> try (exfalso; omega)) | ((first | refine pA_eql_s ?_ ?_ | refine pA_neq_s ?_ ?_) <;> intro hc <;> try (exfalso; first | omega | exact hc rfl | exact hc (by assumption) | exact absurd hc (by assumption))) | refine pIf_t ?_ | refine pIf_f ?_ | refine gA_go (by rfl) ?_ | refine gA_no (by rfl) ?_ | refine pL_l hS (by first | rfl | assumption) ?_ | refine pL_ld1 ha hS ?_ | (refine pDr_go hS ?_; clear hS; intro w hS) | refine pA_ixk hS _ (by first | rfl | (exact (Int.toNat_of_nonneg (by omega)).symm)) (by first | rfl | omega | simpa only [go_sem] using True.intro | (simp only [go_sem]; omega)) (by assumption) fun a ha hel => ?_ | refine pA_v (hk := ?_) | fail)
    · exact hre 2 _ (by rw [hst, if_pos (.inr hc)]) hS.to
    · have hS := Dec.shut (d := bd) (s := s) hS ⟨l, 5, 4294967295, D.front l 4⟩ rfl rfl
      refine hok ⟨l, 5, 4294967295, D.front l 4⟩ _ _ ?_ hS
      rw [hst, if_neg]
      rintro (h | h)
      · exact h (hbe.2 (by assumption))
      · exact hc h
    · exact hre 2 _ (by rw [hst, if_pos (.inl fun e => hc (hbe.1 e))]) hS.to
end

end Go.Proofs.YtbgnnjfpiblkmaaGreatDoor

namespace Go.Proofs.YtbgnnjfpiblkmaaGreatDoor
open Go
attribute [local irreducible] oMv oV oU oCall oCallV oBi oBin oUn oLoad oStore oNil oFld oField oIdx oIndex oPick oAlloc oBox oBuild oBs oConv oMk oSl oExt oFn oIface oMap oLook oMapUp oRange oNext oEntry oInv oAssert oPanic oRes pN pA pL pDr pIf gA pGd

namespace D
def S.bitQ (st : S) (l : List Int) (i : Int) : S × List Int × Int × Int :=
  if 0 ≤ i ∧ i < l.length then match st.bit (B.bound st.R (l.getD i.toNat 0)) with
    | .ok t v => (t, l.set i.toNat (B.next (l.getD i.toNat 0) v), v, 0)
    | .no e => (st, l, 0, e)
  else (st, l, 0, 7)
def S.dirQ (st : S) (n : Int) : S × Int × Int :=
  if 0 ≤ n ∧ n ≤ 32 then match st.direct 0 n.toNat with
    | .ok t v => (t, v, 0)
    | .no e => (st, 0, e)
  else (st, 0, 7)
theorem bit_mid {st : S} (ho : Ok st) {l : List Int} (hf : B.Fine l) {i : Int} (h : 0 ≤ i ∧ i < l.length) : 65536 ≤ B.bound st.R (l.getD i.toNat 0) ∧ 65536 ≤ st.R - B.bound st.R (l.getD i.toNat 0) := by
  have hx : l[i.toNat]? = some (l.getD i.toNat 0) := by
    rw [List.getD_eq_getElem?_getD, List.getElem?_eq_getElem (show i.toNat < l.length by omega)]; rfl
  have hp := hf.get hx
  exact bound_mid ho.r0 hp.1 hp.2
theorem bitQ_ok {st : S} (ho : Ok st) {l : List Int} (hf : B.Fine l) (i : Int) : Ok (st.bitQ l i).1 ∧ (st.bitQ l i).1.b = st.b ∧ B.Fine (st.bitQ l i).2.1 ∧ (st.bitQ l i).2.1.length = l.length := by
  unfold S.bitQ
  split
  · rename_i h
    have hm := bit_mid ho hf h
    split
    · rename_i t v e
      have := ho.bit hm.1 hm.2 e
      have hx : l[i.toNat]? = some (l.getD i.toNat 0) := by
        rw [List.getD_eq_getElem?_getD, List.getElem?_eq_getElem (show i.toNat < l.length by omega)]; rfl
      have o1 := ((⟨R.Ok.new, hf⟩ : R.TS.Ok ⟨R.S.new, l⟩).bit h.1 h.2 v).1.f
      exact ⟨this.1, this.2.1, o1, by simp⟩
    · exact ⟨ho, rfl, hf, rfl⟩
  · exact ⟨ho, rfl, hf, rfl⟩
theorem dirQ_ok {st : S} (ho : Ok st) (n : Int) : Ok (st.dirQ n).1 ∧ (st.dirQ n).1.b = st.b := by
  unfold S.dirQ
  split
  · split
    · rename_i t v e
      exact Ok.direct _ ho e
    · exact ⟨ho, rfl⟩
  · exact ⟨ho, rfl⟩
abbrev A := S × List Int
theorem bitQ_no {st : S} {l : List Int} {i : Int} (h : (st.bitQ l i).2.2.2 ≠ 0) : (st.bitQ l i).1 = st ∧ (st.bitQ l i).2.1 = l := by
  unfold S.bitQ at *
  split
  · rename_i hn
    simp only [if_pos hn] at h
    split
    · rename_i t v e
      simp only [e] at h
      exact absurd rfl h
    · exact ⟨rfl, rfl⟩
  · exact ⟨rfl, rfl⟩
theorem bitQ_v {st : S} {l : List Int} {i : Int} : (st.bitQ l i).2.2.1 = 0 ∨ (st.bitQ l i).2.2.1 = 1 := by
  unfold S.bitQ
  split
  · split
    · rename_i t v e
      unfold S.bit at e
      split at e
      · cases e; exact bitAt_01 _ _
      · cases e
    · exact .inl rfl
  · exact .inl rfl

structure AOk (a : A) : Prop where
  s : Ok a.1
  f : B.Fine a.2
structure Same (z a : A) : Prop where
  b : z.1.b = a.1.b
  n : z.2.length = a.2.length
end D

section
variable {E w : World} {M : List HA} {Q : Value → World → Prop} {d p : Nat} {st : D.S} {l : List Int}

theorem DBit_q (hS : Sat E w (Dec d st :: PSet p l :: M)) (ho : D.Ok st) (hf : B.Fine l) (hb : st.b.length ≤ 225000000000000) (i : Int)
    (hQ : ∀ w, Sat E w (Dec d (st.bitQ l i).1 :: PSet p (st.bitQ l i).2.1 :: M) → Q (.tuple #[.int .i64 (st.bitQ l i).2.2.1, .int .i64 (st.bitQ l i).2.2.2]) w) :
    Calls Tryz.prog 163 #[.pointer (some ⟨d, 0, none⟩), .pointer (some ⟨p, 0, none⟩), .int .i64 i] w (retP Q) := by
  unfold D.S.bitQ at hQ
  refine DBit_ok hS ho hf hb i (fun h w hS => ?_) (fun t v w h0 h1 e hS => ?_) fun e w h0 h1 he hS => ?_
  · simp only [if_neg h] at hQ; exact hQ w hS
  · simp only [if_pos (show 0 ≤ i ∧ i < l.length from ⟨h0, h1⟩), e] at hQ; exact hQ w hS
  · simp only [if_pos (show 0 ≤ i ∧ i < l.length from ⟨h0, h1⟩), he] at hQ; exact hQ w hS
theorem DDirect_q (hS : Sat E w (Dec d st :: M)) (ho : D.Ok st) (hb : st.b.length ≤ 225000000000000) (n : Int)
    (hQ : ∀ w, Sat E w (Dec d (st.dirQ n).1 :: M) → Q (.tuple #[.int .u32 (st.dirQ n).2.1, .int .i64 (st.dirQ n).2.2]) w) :
    Calls Tryz.prog 166 #[.pointer (some ⟨d, 0, none⟩), .int .i64 n] w (retP Q) := by
  unfold D.S.dirQ at hQ
  refine DDirect_ok hS ho hb n (fun h w hS => ?_) (fun t v w h0 h1 e hS => ?_) fun e w h0 h1 he hS => ?_
  · simp only [if_neg h] at hQ; exact hQ w hS
  · simp only [if_pos (show 0 ≤ n ∧ n ≤ 32 from ⟨h0, h1⟩), e] at hQ; exact hQ w hS
  · simp only [if_pos (show 0 ≤ n ∧ n ≤ 32 from ⟨h0, h1⟩), he] at hQ; exact hQ w hS
theorem DNew_in {s0 : Sl} {l : List UInt8} (hS : Sat E w M) [hr : Rds cd_uint8 M s0 l] (hb : l.length ≤ 225000000000000) {t : D.S} (h : D.start l = .ok t ())
    (hok : ∀ d w, Sat E w (Dec d t :: M) → Q (.tuple #[.pointer (some ⟨d, 0, none⟩), .int .i64 0]) w) : Calls Tryz.prog 87 #[.slice s0.a l.length s0.c] w (retP Q) :=
  DNew_ok hS hb (fun t' d w e hS => by rw [h] at e; cases e; exact hok d w hS) fun e w he _ => by rw [h] at he; cases he
theorem DNew_no {s0 : Sl} {l : List UInt8} (hS : Sat E w M) [hr : Rds cd_uint8 M s0 l] (hb : l.length ≤ 225000000000000) {e : Int} (h : D.start l = .no e)
    (hre : ∀ w, Sat E w M → Q (.tuple #[.pointer none, .int .i64 e]) w) : Calls Tryz.prog 87 #[.slice s0.a l.length s0.c] w (retP Q) :=
  DNew_ok hS hb (fun t' d w e hS => by rw [h] at e; cases e) fun e' w he hS => by rw [h] at he; cases he; exact hre w hS
end

end Go.Proofs.YtbgnnjfpiblkmaaGreatDoor

namespace Go.Proofs.YtbgnnjfpiblkmaaGreatDoor
open Go

namespace D
structure In (s f : R.S) : Prop where
  k : s.k ≤ f.k
  lo : s.N * 256 ^ (f.k - s.k) ≤ f.N
  hi : f.N < (s.N + s.R) * 256 ^ (f.k - s.k)
theorem In.wide {s f : R.S} (h : In ⟨s.N * 256, s.R * 256, s.k + 1⟩ f) : In s f := by
  obtain ⟨h1, h2, h3⟩ := h
  have h1 : s.k + 1 ≤ f.k := h1
  have e : f.k - s.k = (f.k - (s.k + 1)) + 1 := by omega
  have e2 : ∀ x : Int, x * 256 ^ (f.k - s.k) = x * 256 * 256 ^ (f.k - (s.k + 1)) := fun x => by rw [e, Int.pow_succ, Int.mul_comm (256 ^ _) 256, ← Int.mul_assoc]
  refine ⟨by omega, by rw [e2]; exact h2, ?_⟩
  rw [e2, Int.add_mul]
  exact h3
theorem In.widen {s f : R.S} (h0 : 65536 ≤ s.R) (h : In s.widen f) : In s f := by
  by_cases hr : s.R < 16777216
  · rw [R.S.widen_go (by omega) hr] at h
    rw [R.S.widen_no (show ¬ s.R * 256 < 16777216 by omega)] at h
    exact h.wide
  · rwa [R.S.widen_no hr] at h
def seen (f : R.S) (k : Nat) : Int := f.N / 256 ^ (f.k - k)
theorem In.seen {s f : R.S} (h : In s f) : s.N ≤ seen f s.k ∧ seen f s.k < s.N + s.R := by
  have p : (0 : Int) < 256 ^ (f.k - s.k) := Int.pow_pos (by omega)
  exact ⟨(Int.le_ediv_iff_mul_le p).2 h.lo, (Int.ediv_lt_iff_lt_mul p).2 h.hi⟩

structure Begins (b : List UInt8) (f : R.S) : Prop where
  len : f.k + 5 ≤ b.length
  num : ∀ i, i ≤ f.k + 5 → R.num (b.take i) = f.N / 256 ^ (f.k + 5 - i)
theorem Begins.of {f : R.S} (h : R.Ok f) (more : List UInt8) : Begins (f.bytes ++ more) f := by
  have hl : f.bytes.length = f.k + 5 := R.digits_length _ _
  refine ⟨by rw [List.length_append]; omega, fun i hi => ?_⟩
  rw [List.take_append_of_le_length (by omega)]
  have h1 : R.num f.bytes = f.N := by
    rw [R.S.bytes, R.num_digits]
    have h5 := h.top
    have h6 := h.n0
    have h7 := h.r0
    have e : (256 : Int) ^ (f.k + 5) = 256 * (4294967296 * 256 ^ f.k) := by
      rw [Int.pow_add, show (256 : Int) ^ 5 = 256 * 4294967296 from by decide, Int.mul_comm, Int.mul_assoc]
    exact Int.emod_eq_of_lt h6 (by rw [e]; omega)
  have h2 := R.num_append (f.bytes.take i) (f.bytes.drop i)
  rw [List.take_append_drop, h1, List.length_drop, hl] at h2
  have h3 := R.num_nonneg (f.bytes.drop i)
  have h4 := R.num_lt (f.bytes.drop i)
  rw [List.length_drop, hl] at h4
  have p : (0 : Int) < 256 ^ (f.k + 5 - i) := Int.pow_pos (by omega)
  rw [h2, Int.add_comm, Int.add_mul_ediv_right _ _ (by omega), Int.ediv_eq_zero_of_lt h3 h4, Int.zero_add]
theorem Begins.seen {b : List UInt8} {f : R.S} (h : Begins b f) {k : Nat} (hk : k ≤ f.k) : R.num (b.take (k + 5)) = D.seen f k := by
  rw [h.num _ (by omega), D.seen, show f.k + 5 - (k + 5) = f.k - k from by omega]

structure Fol (b : List UInt8) (f s : R.S) (d : S) : Prop where
  b : d.b = b
  k : d.k = s.k + 5
  R : d.R = s.R
  C : d.C = D.seen f s.k - s.N

theorem Fol.widen {b : List UInt8} {f s : R.S} {d : S} (hb : Begins b f) (h : Fol b f s d) (h0 : 65536 ≤ s.R) (hi : In s.widen f) : ∃ t, d.widen = some t ∧ Fol b f s.widen t := by
  obtain ⟨h1, h2, h3, h4⟩ := h
  by_cases hr : s.R < 16777216
  · have e1 : s.widen = ⟨s.N * 256, s.R * 256, s.k + 1⟩ := by
      rw [R.S.widen_go (by omega) hr, R.S.widen_no (show ¬ s.R * 256 < 16777216 by omega)]
    rw [e1] at hi ⊢
    have hk : s.k + 1 ≤ f.k := hi.k
    have hl := hb.len
    obtain ⟨x, hx⟩ : ∃ x, b[s.k + 5]? = some x := ⟨b[s.k + 5]'(by omega), by simp⟩
    have e2 := hb.seen (k := s.k) (by omega)
    have e3 := hb.seen (k := s.k + 1) hk
    rw [show s.k + 1 + 5 = (s.k + 5) + 1 from by omega, List.take_add_one, hx, Option.toList_some, R.num_snoc, e2] at e3
    refine ⟨⟨d.b, d.k + 1, d.R * 256, d.C * 256 + x.toNat⟩, ?_, ⟨h1, (show d.k + 1 = s.k + 1 + 5 by omega), by simp only [h3], ?_⟩⟩
    · rw [S.widen, if_neg (by omega), h1, h2, hx]
    · simp only [h4, ← e3]
      omega
  · rw [R.S.widen_no hr] at hi ⊢
    exact ⟨d, by rw [S.widen, if_pos (by omega)], ⟨h1, h2, h3, h4⟩⟩

theorem Fol.bit {b : List UInt8} {f s : R.S} {d : S} (hb : Begins b f) (h : Fol b f s d) {c : Int} (bit : Int) (hbit : bit = 0 ∨ bit = 1) (c0 : 65536 ≤ c) (c1 : 65536 ≤ s.R - c) (hi : In (s.cut c bit) f) :
    In s f ∧ ∃ t, d.bit c = .ok t bit ∧ Fol b f (s.cut c bit) t := by
  obtain ⟨h1, h2, h3, h4⟩ := h
  rcases hbit with rfl | rfl
  · rw [R.S.cut, if_pos rfl] at hi ⊢
    have hi2 := In.widen (s := ⟨s.N, c, s.k⟩) (by simp only; omega) hi
    have hs := hi2.seen
    simp only at hs
    have p : (0 : Int) < 256 ^ (f.k - s.k) := Int.pow_pos (by omega)
    have his : In s f := ⟨hi2.k, hi2.lo, Int.lt_of_lt_of_le hi2.hi (Int.mul_le_mul_of_nonneg_right (by simp only; omega) (by simp only; omega))⟩
    have hlt : d.C < c := by omega
    have hcut : d.cut c = ⟨d.b, d.k, c, d.C⟩ := by rw [S.cut, if_pos hlt]
    have hf : Fol b f ⟨s.N, c, s.k⟩ (d.cut c) := by rw [hcut]; exact ⟨h1, h2, rfl, h4⟩
    obtain ⟨t, ht, hft⟩ := hf.widen hb (by simp only; omega) hi
    refine ⟨his, t, ?_, hft⟩
    rw [S.bit, ht, S.bitAt, if_pos hlt]
  · rw [R.S.cut, if_neg (by omega)] at hi ⊢
    have hi2 := In.widen (s := ⟨s.N + c, s.R - c, s.k⟩) (by simp only; omega) hi
    have hs := hi2.seen
    simp only at hs
    have p : (0 : Int) < 256 ^ (f.k - s.k) := Int.pow_pos (by omega)
    have his : In s f := by
      refine ⟨hi2.k, Int.le_trans (Int.mul_le_mul_of_nonneg_right (show s.N ≤ s.N + c by omega) (by omega)) hi2.lo, ?_⟩
      have := hi2.hi
      simp only at this
      rwa [show s.N + c + (s.R - c) = s.N + s.R from by omega] at this
    have hge : ¬ d.C < c := by omega
    have hcut : d.cut c = ⟨d.b, d.k, d.R - c, d.C - c⟩ := by rw [S.cut, if_neg hge]
    have hf : Fol b f ⟨s.N + c, s.R - c, s.k⟩ (d.cut c) := by rw [hcut]; exact ⟨h1, h2, by simp only [h3], by simp only [h4]; omega⟩
    obtain ⟨t, ht, hft⟩ := hf.widen hb (by simp only; omega) hi
    refine ⟨his, t, ?_, hft⟩
    rw [S.bit, ht, S.bitAt, if_neg hge]
end D

end Go.Proofs.YtbgnnjfpiblkmaaGreatDoor

namespace Go.Proofs.YtbgnnjfpiblkmaaGreatDoor
open Go

namespace D
theorem Fol.at_ (b : List UInt8) (f s : R.S) : Fol b f s ⟨b, s.k + 5, s.R, seen f s.k - s.N⟩ := ⟨rfl, rfl, rfl, rfl⟩

theorem Fol.one {b : List UInt8} {f s : R.S} {d : S} (hb : Begins b f) (h : Fol b f s d) (hr : 16777216 ≤ s.R) {x : Int} (hx : x = 0 ∨ x = 1) (hi : In (s.one x) f) :
    In s f ∧ d.one.C < d.one.R ∧ d.bitAt (d.R / 2) = x ∧ ∃ t, d.one.widen = some t ∧ Fol b f (s.one x) t := by
  obtain ⟨h1, h2, h3, h4⟩ := h
  rcases hx with rfl | rfl
  · rw [R.S.one, if_neg (by omega)] at hi ⊢
    have hi2 := In.widen (s := ⟨s.N, s.R / 2, s.k⟩) (by simp only; omega) hi
    have hs := hi2.seen
    simp only at hs
    have p : (0 : Int) < 256 ^ (f.k - s.k) := Int.pow_pos (by omega)
    have his : In s f := ⟨hi2.k, hi2.lo, Int.lt_of_lt_of_le hi2.hi (Int.mul_le_mul_of_nonneg_right (by simp only; omega) (by simp only; omega))⟩
    have hlt : d.C < d.R / 2 := by rw [h3]; omega
    have ho : d.one = ⟨d.b, d.k, d.R / 2, d.C⟩ := by rw [S.one, if_pos hlt]
    have hf : Fol b f ⟨s.N, s.R / 2, s.k⟩ d.one := by rw [ho]; exact ⟨h1, h2, by simp only [h3], h4⟩
    obtain ⟨t, ht, hft⟩ := hf.widen hb (by simp only; omega) hi
    refine ⟨his, by rw [ho]; exact hlt, by rw [S.bitAt, if_pos hlt], t, ht, hft⟩
  · rw [R.S.one, if_pos rfl] at hi ⊢
    have hi2 := In.widen (s := ⟨s.N + s.R / 2, s.R / 2, s.k⟩) (by simp only; omega) hi
    have hs := hi2.seen
    simp only at hs
    have p : (0 : Int) < 256 ^ (f.k - s.k) := Int.pow_pos (by omega)
    have his : In s f := by
      refine ⟨hi2.k, Int.le_trans (Int.mul_le_mul_of_nonneg_right (show s.N ≤ s.N + s.R / 2 by omega) (by omega)) hi2.lo, Int.lt_of_lt_of_le hi2.hi (Int.mul_le_mul_of_nonneg_right (by simp only; omega) (by simp only; omega))⟩
    have hge : ¬ d.C < d.R / 2 := by rw [h3]; omega
    have ho : d.one = ⟨d.b, d.k, d.R / 2, d.C - d.R / 2⟩ := by rw [S.one, if_neg hge]
    have hf : Fol b f ⟨s.N + s.R / 2, s.R / 2, s.k⟩ d.one := by rw [ho]; exact ⟨h1, h2, by simp only [h3], by simp only [h4, h3]; omega⟩
    obtain ⟨t, ht, hft⟩ := hf.widen hb (by simp only; omega) hi
    refine ⟨his, by rw [ho, h3]; simp only [h4]; omega, by rw [S.bitAt, if_neg hge], t, ht, hft⟩

theorem bits_top (v : Int) (n : Nat) : v % 2 ^ (n + 1) = v / 2 ^ n % 2 * 2 ^ n + v % 2 ^ n := by
  rw [Int.pow_succ]
  have p : (0 : Int) < 2 ^ n := Int.pow_pos (by omega)
  generalize (2 : Int) ^ n = q at p
  have h1 := Int.emod_add_mul_ediv v q
  have h2 := Int.emod_add_mul_ediv (v / q) 2
  have h3 := Int.emod_add_mul_ediv v (q * 2)
  have h4 : v / q / 2 = v / (q * 2) := by rw [Int.ediv_ediv_of_nonneg (by omega)]
  rw [h4] at h2
  generalize v / (q * 2) = d at h2 h3
  generalize v / q = c at h1 h2 ⊢
  generalize c % 2 = e at h2 ⊢
  grind
theorem Fol.direct {b : List UInt8} {f : R.S} (hb : Begins b f) (v : Int) : ∀ (n : Nat) {s : R.S} {d : S} (u : Int), R.Ok s → Fol b f s d → In (s.direct v n) f →
    In s f ∧ ∃ t, d.direct u n = .ok t (u * 2 ^ n + v % 2 ^ n) ∧ Fol b f (s.direct v n) t
  | 0, s, d, u, ho, h, hi => ⟨hi, d, by simp [S.direct, Int.emod_one], h⟩
  | n + 1, s, d, u, ho, h, hi => by
    simp only [R.S.direct] at hi ⊢
    obtain ⟨hi2, _⟩ := Fol.direct hb v n (s := s.one (v / 2 ^ n % 2)) 0 (ho.one _) (Fol.at_ b f _) hi
    obtain ⟨h1, h2, h3, t, h4, h5⟩ := h.one hb ho.r0 (by omega) hi2
    obtain ⟨_, t2, h6, h7⟩ := Fol.direct hb v n (2 * u + v / 2 ^ n % 2) (ho.one _) h5 hi
    refine ⟨h1, t2, ?_, h7⟩
    rw [S.direct, if_neg (by omega), h4, h3]
    simp only [h6]
    rw [bits_top, Int.pow_succ]
    congr 1
    grind
end D

namespace R
theorem bit_mid {a : TS} (h : a.Ok) {i : Int} (h0 : 0 ≤ i) (h1 : i < a.l.length) : 65536 ≤ B.bound a.s.R (a.l.getD i.toNat 0) ∧ 65536 ≤ a.s.R - B.bound a.s.R (a.l.getD i.toNat 0) := by
  have hx : a.l[i.toNat]? = some (a.l.getD i.toNat 0) := by
    rw [List.getD_eq_getElem?_getD, List.getElem?_eq_getElem (show i.toNat < a.l.length by omega)]; rfl
  have hp := h.f.get hx
  exact D.bound_mid h.s.r0 hp.1 hp.2
end R

namespace D
theorem Fol.start {b : List UInt8} {f : R.S} (hb : Begins b f) (hi : In R.S.new f) : ∃ t, D.start b = .ok t () ∧ Fol b f R.S.new t := by
  have hs := hi.seen
  have hl := hb.len
  have hN : R.S.new.N = 0 := rfl
  have hR : R.S.new.R = 4294967295 := rfl
  have hK : R.S.new.k = 0 := rfl
  rw [hN, hR, hK] at hs
  obtain ⟨b0, hb0⟩ : ∃ x, b[0]? = some x := ⟨b[0]'(by omega), by simp⟩
  have e := hb.seen (k := 0) (by omega)
  rw [Nat.zero_add] at e
  have hsplit : b.take 5 = b0 :: (b.drop 1).take 4 := by
    cases b with
    | nil => simp at hl
    | cons x l => simp at hb0; subst hb0; rfl
  have hn := R.num_append [b0] ((b.drop 1).take 4)
  have hl4 : ((b.drop 1).take 4).length = 4 := by rw [List.length_take, List.length_drop]; omega
  rw [List.singleton_append, ← hsplit, e, hl4] at hn
  have h1 : R.num [b0] = b0.toNat := by simp [R.num]
  have h4 : (256 : Int) ^ 4 = 4294967296 := by decide
  rw [h1, h4] at hn
  have hfb := front_bd b 4 (by omega)
  have hfe : front b 4 = R.num ((b.drop 1).take 4) := rfl
  have hz : b0.toNat = 0 := by omega
  have hb00 : b0 = 0 := UInt8.toNat_inj.1 hz
  subst hb00
  have hft : front b 4 = seen f 0 := by omega
  refine ⟨⟨b, 5, 4294967295, front b 4⟩, ?_, ⟨rfl, rfl, rfl, by rw [hN, hK]; simp only [hft]; omega⟩⟩
  rw [D.start, if_neg (by omega), hb0, if_neg]
  rintro (h | h)
  · exact h rfl
  · omega
end D

end Go.Proofs.YtbgnnjfpiblkmaaGreatDoor

namespace Go.Proofs.YtbgnnjfpiblkmaaGreatDoor
open Go

namespace R
def nodeL (l : List Int) : Int := l.foldl (fun m b => 2 * m + b) 1
def horner (l : List Int) : Int := l.foldl (fun m b => 2 * m + b) 0
def backv (l : List Int) : Int := l.foldr (fun b m => b + 2 * m) 0
def val (back : Bool) (l : List Int) : Int := if back then backv l else horner l
theorem nodeL_snoc (l : List Int) (b : Int) : nodeL (l ++ [b]) = 2 * nodeL l + b := by simp [nodeL]
theorem horner_snoc (l : List Int) (b : Int) : horner (l ++ [b]) = 2 * horner l + b := by simp [horner]
theorem backv_snoc (b : Int) : ∀ l : List Int, backv (l ++ [b]) = backv l + b * 2 ^ l.length
  | [] => by simp [backv]
  | x :: l => by
    have := backv_snoc b l
    simp only [backv, List.cons_append, List.foldr_cons, List.length_cons, Int.pow_succ] at this ⊢
    rw [this]
    grind
def Bits (l : List Int) : Prop := ∀ b ∈ l, b = 0 ∨ b = 1
theorem Bits.snoc {l : List Int} {b : Int} (h : Bits l) (hb : b = 0 ∨ b = 1) : Bits (l ++ [b]) := by
  intro x hx
  rcases List.mem_append.1 hx with hx | hx
  · exact h x hx
  · rw [List.mem_singleton.1 hx]; exact hb
theorem Bits.init {l : List Int} {b : Int} (h : Bits (l ++ [b])) : Bits l ∧ (b = 0 ∨ b = 1) := ⟨fun x hx => h x (List.mem_append_left _ hx), h b (by simp)⟩
theorem nodeL_bd {l : List Int} : Bits l → (2 : Int) ^ l.length ≤ nodeL l ∧ nodeL l < 2 ^ (l.length + 1) := by
  induction l using snoc_ind with
  | h0 => intro _; simp [nodeL]
  | h1 l b ih =>
    intro h
    obtain ⟨h1, h2⟩ := h.init
    have := ih h1
    rw [nodeL_snoc, List.length_append, List.length_cons, List.length_nil, Int.pow_succ, Int.pow_succ _ (l.length + (0 + 1))]
    rw [Int.pow_succ] at this ⊢
    generalize (2 : Int) ^ l.length = q at *
    omega
theorem horner_bd {l : List Int} : Bits l → 0 ≤ horner l ∧ horner l < 2 ^ l.length := by
  induction l using snoc_ind with
  | h0 => intro _; simp [horner]
  | h1 l b ih =>
    intro h
    obtain ⟨h1, h2⟩ := h.init
    have := ih h1
    rw [horner_snoc, List.length_append, List.length_cons, List.length_nil, Int.pow_succ]
    generalize (2 : Int) ^ l.length = q at *
    omega
theorem backv_bd {l : List Int} : Bits l → 0 ≤ backv l ∧ backv l < 2 ^ l.length := by
  induction l using snoc_ind with
  | h0 => intro _; simp [backv]
  | h1 l b ih =>
    intro h
    obtain ⟨h1, h2⟩ := h.init
    have := ih h1
    rw [backv_snoc, List.length_append, List.length_cons, List.length_nil, Int.pow_succ]
    generalize (2 : Int) ^ l.length = q at *
    rcases h2 with rfl | rfl <;> omega
def part (back : Bool) (n : Nat) (l : List Int) : Int := if back then backv l else horner l * 2 ^ (n - l.length)
theorem part_end (back : Bool) (l : List Int) : part back l.length l = val back l := by
  unfold part val; split
  · rfl
  · rw [Nat.sub_self, Int.pow_zero, Int.mul_one]
theorem part_snoc (back : Bool) {n : Nat} {l : List Int} (h : l.length < n) (b : Int) : part back n (l ++ [b]) = part back n l + b * 2 ^ (if back then l.length else n - 1 - l.length) := by
  unfold part
  cases back
  · simp only [Bool.false_eq_true, if_false, horner_snoc, List.length_append, List.length_cons, List.length_nil]
    rw [show n - l.length = (n - 1 - l.length) + 1 from by omega, show n - (l.length + (0 + 1)) = n - 1 - l.length from by omega, Int.pow_succ]
    grind
  · simp only [if_true, backv_snoc]
end R

namespace D
def walk (at_ : Int) (z : A) : Nat → A × List Int × Int
  | 0 => (z, [], 0)
  | k + 1 => if (walk at_ z k).2.2 ≠ 0 then walk at_ z k
    else if ((walk at_ z k).1.1.bitQ (walk at_ z k).1.2 (at_ + R.nodeL (walk at_ z k).2.1)).2.2.2 = 0 then
      ((((walk at_ z k).1.1.bitQ (walk at_ z k).1.2 (at_ + R.nodeL (walk at_ z k).2.1)).1, ((walk at_ z k).1.1.bitQ (walk at_ z k).1.2 (at_ + R.nodeL (walk at_ z k).2.1)).2.1), (walk at_ z k).2.1 ++ [((walk at_ z k).1.1.bitQ (walk at_ z k).1.2 (at_ + R.nodeL (walk at_ z k).2.1)).2.2.1], 0)
    else ((walk at_ z k).1, (walk at_ z k).2.1, ((walk at_ z k).1.1.bitQ (walk at_ z k).1.2 (at_ + R.nodeL (walk at_ z k).2.1)).2.2.2)
theorem walk_step {at_ : Int} {z y : A} {k : Nat} {l : List Int} (h : walk at_ z k = (y, l, 0)) : walk at_ z (k + 1) =
    if (y.1.bitQ y.2 (at_ + R.nodeL l)).2.2.2 = 0 then (((y.1.bitQ y.2 (at_ + R.nodeL l)).1, (y.1.bitQ y.2 (at_ + R.nodeL l)).2.1), l ++ [(y.1.bitQ y.2 (at_ + R.nodeL l)).2.2.1], 0) else (y, l, (y.1.bitQ y.2 (at_ + R.nodeL l)).2.2.2) := by
  rw [walk, h]
  simp only [ne_eq, not_true_eq_false, if_false]
theorem walk_stuck {at_ : Int} {z : A} {k : Nat} (h : (walk at_ z k).2.2 ≠ 0) : ∀ j, walk at_ z (k + j) = walk at_ z k
  | 0 => rfl
  | j + 1 => by
    have e := walk_stuck h j
    have h2 : (walk at_ z (k + j)).2.2 ≠ 0 := by rw [e]; exact h
    rw [← Nat.add_assoc, walk, if_pos h2, e]
theorem walk_ok {at_ : Int} {z : A} (hz : AOk z) : ∀ k, AOk (walk at_ z k).1 ∧ Same (walk at_ z k).1 z ∧ R.Bits (walk at_ z k).2.1 ∧ ((walk at_ z k).2.2 = 0 → (walk at_ z k).2.1.length = k)
  | 0 => ⟨hz, ⟨rfl, rfl⟩, fun _ h => by simp [walk] at h, fun _ => rfl⟩
  | k + 1 => by
    obtain ⟨h1, h2, h3, h4⟩ := walk_ok (at_ := at_) hz k
    rw [walk]
    split
    · rename_i he
      exact ⟨h1, h2, h3, fun h => absurd h he⟩
    · rename_i he
      have hb := bitQ_ok h1.s h1.f (at_ + R.nodeL (walk at_ z k).2.1)
      split
      · rename_i h0
        refine ⟨⟨hb.1, hb.2.2.1⟩, ⟨hb.2.1.trans h2.b, hb.2.2.2.trans h2.n⟩, h3.snoc bitQ_v, fun _ => ?_⟩
        simp only [List.length_append, List.length_cons, List.length_nil, h4 (Decidable.not_not.1 he)]
      · rename_i h0
        exact ⟨h1, h2, h3, fun h => absurd h h0⟩
def gets (z : A) (at_ n : Int) (back : Bool) : A × Int × Int :=
  if R.There z.2.length at_ n then (if (walk at_ z n.toNat).2.2 = 0 then ((walk at_ z n.toNat).1, R.val back (walk at_ z n.toNat).2.1, 0) else ((walk at_ z n.toNat).1, 0, (walk at_ z n.toNat).2.2)) else (z, 0, 7)
theorem gets_ok {z : A} (hz : AOk z) (at_ n : Int) (back : Bool) : AOk (gets z at_ n back).1 ∧ Same (gets z at_ n back).1 z := by
  obtain ⟨h1, h2, _⟩ := walk_ok (at_ := at_) hz n.toNat
  unfold gets
  split
  · split
    · exact ⟨h1, h2⟩
    · exact ⟨h1, h2⟩
  · exact ⟨hz, ⟨rfl, rfl⟩⟩

theorem nodeL_bits (bs : Nat → Int) (bl : Nat → List Int) (h0 : bl 0 = []) (h : ∀ k, bl (k + 1) = bl k ++ [bs k]) : ∀ k, R.nodeL (bl k) = R.node bs k
  | 0 => by rw [h0]; rfl
  | k + 1 => by rw [h, R.nodeL_snoc, nodeL_bits bs bl h0 h k]; rfl
def bitsOf (bs : Nat → Int) : Nat → List Int
  | 0 => []
  | k + 1 => bitsOf bs k ++ [bs k]
theorem bitsOf_len (bs : Nat → Int) : ∀ k, (bitsOf bs k).length = k
  | 0 => rfl
  | k + 1 => by rw [bitsOf, List.length_append, bitsOf_len bs k]; rfl
theorem Fol.put {b : List UInt8} {f : R.S} (hb : Begins b f) {a : R.TS} {d : S} {at_ n : Int} {bs : Nat → Int} (hbs : ∀ k, 0 ≤ bs k ∧ bs k ≤ 1) (ht : R.There a.l.length at_ n) (ho : a.Ok) (h : Fol b f a.s d) :
    ∀ k : Nat, k ≤ n.toNat → In (a.put at_ bs k).s f → In a.s f ∧ ∃ t, walk at_ (d, a.l) k = ((t, (a.put at_ bs k).l), bitsOf bs k, 0) ∧ Fol b f (a.put at_ bs k).s t
  | 0, _, hi => ⟨hi, d, rfl, h⟩
  | k + 1, hk, hi => by
    have hp := ht.place hbs (k := k) (by omega)
    have o1 := (ho.put ht hbs k (by omega)).1
    have hlen := R.TS.put_len a at_ bs k
    have hc := R.bit_mid o1 (i := at_ + R.node bs k) hp.1 (by omega)
    have hbk := hbs k
    have hb01 : bs k = 0 ∨ bs k = 1 := by omega
    simp only [R.TS.put, R.TS.bit] at hi
    obtain ⟨hi2, _⟩ := Fol.bit hb (Fol.at_ b f (a.put at_ bs k).s) (bs k) hb01 hc.1 hc.2 hi
    obtain ⟨h1, t, h2, h3⟩ := Fol.put hb hbs ht ho h k (by omega) hi2
    obtain ⟨_, t2, h4, h5⟩ := h3.bit hb (bs k) hb01 hc.1 hc.2 hi
    refine ⟨h1, t2, ?_, h5⟩
    have hn : R.nodeL (bitsOf bs k) = R.node bs k := nodeL_bits bs (bitsOf bs) rfl (fun _ => rfl) k
    have hq : t.bitQ (a.put at_ bs k).l (at_ + R.node bs k) = (t2, (a.put at_ bs k).l.set (at_ + R.node bs k).toNat (B.next ((a.put at_ bs k).l.getD (at_ + R.node bs k).toNat 0) (bs k)), bs k, 0) := by
      simp only [S.bitQ, if_pos (show 0 ≤ at_ + R.node bs k ∧ at_ + R.node bs k < (a.put at_ bs k).l.length from ⟨hp.1, by omega⟩), h3.R, h4]
    rw [walk_step h2, hn]
    simp only [hq, if_true, R.TS.put, R.TS.bit, bitsOf]
end D

namespace R
theorem val_bits (back : Bool) (n : Nat) {v : Int} (h0 : 0 ≤ v) (h1 : v < 2 ^ n) : val back (D.bitsOf (bitAt back n v) n) = v := by
  cases back
  · have key : ∀ k, k ≤ n → horner (D.bitsOf (bitAt false n v) k) = v / 2 ^ (n - k) := by
      intro k
      induction k with
      | zero =>
        intro _
        rw [Nat.sub_zero, Int.ediv_eq_zero_of_lt h0 h1]; rfl
      | succ k ih =>
        intro hk
        rw [D.bitsOf, horner_snoc, ih (by omega)]
        simp only [bitAt, Bool.false_eq_true, if_false]
        rw [show n - 1 - k = n - (k + 1) from by omega, show n - k = (n - (k + 1)) + 1 from by omega, Int.pow_succ, ← Int.ediv_ediv_of_nonneg (Int.le_of_lt (Int.pow_pos (by omega)))]
        omega
    have := key n (Nat.le_refl _)
    simp only [val, Bool.false_eq_true, if_false, this, Nat.sub_self, Int.pow_zero, Int.ediv_one]
  · have key : ∀ k, k ≤ n → backv (D.bitsOf (bitAt true n v) k) = v % 2 ^ k := by
      intro k
      induction k with
      | zero => intro _; simp [D.bitsOf, backv, Int.emod_one]
      | succ k ih =>
        intro hk
        rw [D.bitsOf, backv_snoc, ih (by omega), D.bitsOf_len, D.bits_top]
        simp only [bitAt, if_true]
        rw [Int.add_comm]
    have := key n (Nat.le_refl _)
    simp only [val, if_true, this]
    exact Int.emod_eq_of_lt h0 h1
end R

namespace D
theorem Fol.gets {b : List UInt8} {f : R.S} (hb : Begins b f) {a : R.TS} {d : S} {at_ n v : Int} (back : Bool) (ht : R.There a.l.length at_ n) (hv : R.Holds v n) (ho : a.Ok) (h : Fol b f a.s d) (hi : In (a.put at_ (R.bitAt back n.toNat v) n.toNat).s f) :
    In a.s f ∧ ∃ t, D.gets (d, a.l) at_ n back = ((t, (a.put at_ (R.bitAt back n.toNat v) n.toNat).l), v, 0) ∧ Fol b f (a.put at_ (R.bitAt back n.toNat v) n.toNat).s t := by
  obtain ⟨h1, t, h2, h3⟩ := Fol.put hb (R.bitAt_01 back n.toNat v) ht ho h n.toNat (Nat.le_refl _) hi
  refine ⟨h1, t, ?_, h3⟩
  rw [D.gets, if_pos ht, h2]
  simp only [if_true, R.val_bits back n.toNat hv.1 hv.2]
end D

end Go.Proofs.YtbgnnjfpiblkmaaGreatDoor
