/-
  tar's small functions: digits, numbers, texts, sums, names, what is wrong.
-/
import Derived.Test.YteeepkimnpabiaaDoorTarL
import Derived.Test.YteeepkimnpabiaaDoorLfTar
namespace Go.Proofs.YteeepkimnpabiaaDoor
open Go
set_option linter.unusedSimpArgs false
set_option linter.unnecessarySimpa false
set_option linter.unusedSectionVars false
set_option linter.unusedVariables false
attribute [local irreducible] oMv oV oU oCall oCallV oBi oBin oUn oLoad oStore oNil oFld oField oIdx oIndex oPick oAlloc oBox oBuild oBs oConv oMk oSl oExt oFn oIface oMap oLook oMapUp oRange oNext oAssert oPanic oRes pN pA pL pDr pIf gA pGd Calls

namespace A
theorem oct_at (v : Int) (j : Nat) : oct v (j + 1) = (48 + byteOf (v / 8 ^ j % 8)) :: oct v j := rfl
/-- A number out of digits. -/
def num : List UInt8 → Int := fun l => l.foldl (fun v c => 8 * v + c.toNat % 8) 0
theorem num_snoc (l : List UInt8) (c : UInt8) : num (l ++ [c]) = 8 * num l + c.toNat % 8 := by simp [num]
theorem num_bd : ∀ (n : Nat) (l : List UInt8), l.length = n → 0 ≤ num l ∧ num l < 8 ^ n
  | 0, l, h => by rw [List.length_eq_zero_iff.1 h]; simp [num]
  | n + 1, l, h => by
    obtain ⟨m, c, rfl⟩ : ∃ m c, l = m ++ [c] := ⟨l.dropLast, l.getLast (by intro e; rw [e] at h; simp at h), (List.dropLast_concat_getLast _).symm⟩
    have := num_bd n m (by simpa using h)
    rw [num_snoc, Int.pow_succ]
    generalize (8 : Int) ^ n = q at *
    omega
end A

theorem putL_set {α : Type} (l us : List α) (k : Nat) (d : α) (h : k + 1 + us.length ≤ l.length) : (putL l (k + 1) us).set k d = putL l k (d :: us) := by
  simp only [putL, List.length_cons]
  rw [List.append_assoc, List.set_append_left _ _ (by simp; omega), List.set_eq_take_append_cons_drop, if_pos (by simp; omega), List.take_take, List.drop_take, Nat.sub_self, List.take_zero, Nat.min_eq_left (by omega)]
  simp [Nat.add_assoc, Nat.add_comm 1]

theorem and7_nat (x : UInt8) : (x &&& 7).toNat = x.toNat % 8 := by
  rw [UInt8.toNat_and]
  exact Nat.and_two_pow_sub_one_eq_mod x.toNat 3
theorem or8 (a b : Nat) (hb : b < 8) (ha : 8 * a + b < 9223372036854775808) : ((BitVec.ofInt 64 ((a : Int) * 8) ||| BitVec.ofInt 64 (b : Int)).toNat : Int) = 8 * a + b := by
  have e1 : BitVec.ofInt 64 ((a : Int) * 8) = BitVec.ofNat 64 (8 * a) := by
    rw [show ((a : Int) * 8) = ((8 * a : Nat) : Int) from by omega, BitVec.ofInt_natCast]
  have e2 : BitVec.ofInt 64 (b : Int) = BitVec.ofNat 64 b := BitVec.ofInt_natCast ..
  rw [e1, e2, BitVec.toNat_or, BitVec.toNat_ofNat, BitVec.toNat_ofNat, Nat.mod_eq_of_lt (by omega), Nat.mod_eq_of_lt (by omega)]
  have := Nat.two_pow_add_eq_or_of_lt (i := 3) (b := b) (by omega) a
  rw [show (8 : Nat) = 2 ^ 3 from rfl, ← this]
  omega

section
variable [Pan] {E w : World} {K Q : Value → World → Prop} {L M : List HA} {l r : List UInt8} {s s2 : Sl}

set_option maxHeartbeats 1000000 in
theorem octal_ok (hS : Sat E w (rows cd_uint8 s l :: M)) (o n : Nat) (h0 : 0 < n) (ho : o + n ≤ l.length) (hl : l.length ≤ 140737488355328) (v : Int)
    (hQ : ∀ w, Sat E w (rows cd_uint8 s (putL l o (A.oct v (n - 1))) :: M) → Q (.tuple #[]) w) :
    Calls Tryd.prog 45 #[.slice (s.sub o cd_uint8.size).a n (s.sub o cd_uint8.size).c, .int .i64 v] w (retP Q) := by
  refine tar_octal.calls ?_
  unfold tar_octal.F
  obtain ⟨g, hg, hc⟩ := rows_at (C := cd_uint8) (s := s) hS (by omega)
  repeat' (first | refine pN_via (by (intro K; simp (disch := omega) only [go_sem, pN_min, pN_max, w_u32, w_u64, Option.isNone_some, Option.isNone_none]; (try simp only [wrap_u32, wrap_u64]); rfl)) ?_ | fail)
  refine ⟨fun a i w => ∃ j : Nat, j ≤ n - 1 ∧ a = .int .i64 (v / 8 ^ j) ∧ i = .int .i64 ((n : Int) - 2 - j) ∧ Sat E w (rows cd_uint8 s (putL l (o + (n - 1 - j)) (A.oct v j)) :: M), fun _ i _ => (RowKit.intOf i + 1).toNat,
    ⟨0, Nat.zero_le _, by rw [Int.pow_zero, Int.ediv_one], by simp, by simpa [putL, A.oct] using hS⟩, ?_⟩
  clear hS
  rintro _ _ _ w ⟨j, hj, rfl, rfl, hS⟩
  have hlen : (putL l (o + (n - 1 - j)) (A.oct v j)).length = l.length := putL_len _ _ _ (by rw [A.oct_len]; omega)
  by_cases hlt : j < n - 1
  · obtain ⟨i, hi⟩ : ∃ i : Nat, (n : Int) - 2 - j = i := ⟨n - 2 - j, by omega⟩
    rw [hi]
    have hin : i = n - 2 - j := by omega
    subst hin
    haveI hr0 : Rds cd_uint8 (rows cd_uint8 s (putL l (o + (n - 1 - j)) (A.oct v j)) :: M) s (putL l (o + (n - 1 - j)) (A.oct v j)) := inferInstance
    haveI hr1 := Rds.sub (C := cd_uint8) (h := hr0) o (o + n) (by omega) (by omega)
    have hl1 : (((putL l (o + (n - 1 - j)) (A.oct v j)).drop o).take (o + n - o)).length = n := by rw [List.length_take, List.length_drop]; omega
    have e8 : v / 8 ^ j / 8 = v / 8 ^ (j + 1) := by rw [Int.pow_succ, Int.ediv_ediv_of_nonneg (Int.pow_nonneg (by omega))]
    have ek : o + (n - 1 - j) = (o + (n - 2 - j)) + 1 := by omega
    repeat' (first | (refine pN_geq_s ?_ ?_ <;> intro hc <;> try (exfalso; omega)) | refine pIf_t ?_ | refine pN_tob ?_ | refine pN_ix hS _ (by first | rfl | (exact (Int.toNat_of_nonneg (by omega)).symm)) (by first | rfl | omega | simpa only [go_sem] using True.intro | (simp only [go_sem]; omega)) (by first | omega | (simp only [go_sem]; omega)) fun a x hx ha hel => ?_ | refine pN_via (by (intro K; simp (disch := omega) only [go_sem, pN_min, pN_max, w_u32, w_u64, Option.isNone_some, Option.isNone_none]; (try simp only [wrap_u32, wrap_u64]); rfl)) ?_ | fail)
    refine pN_sr (hel.sub (by omega)) hS rfl rfl (by omega) ?_
    clear hS
    intro w hS
    rw [ek, putL_set _ _ _ _ (by rw [A.oct_len]; omega), ← A.oct_at] at hS
    repeat' (first | refine pN_via (by (intro K; simp (disch := omega) only [go_sem, pN_min, pN_max, w_u32, w_u64, Option.isNone_some, Option.isNone_none]; (try simp only [wrap_u32, wrap_u64]); rfl)) ?_ | fail)
    rw [e8]
    exact ⟨⟨j + 1, by omega, rfl, congrArg (Value.int .i64) (by omega), by rw [show o + (n - 1 - (j + 1)) = o + (n - 2 - j) from by omega]; exact hS⟩, by simp [RowKit.intOf] <;> omega⟩
  · repeat' (first | (refine pN_geq_s ?_ ?_ <;> intro hc <;> try (exfalso; omega)) | refine pIf_f ?_ | fail)
    obtain rfl : j = n - 1 := by omega
    rw [Nat.sub_self, Nat.add_zero] at hS
    exact hQ _ hS
theorem pN_and7 {t : TypeId} {xo yo : Operand} (x : UInt8) (hk : K (bv (x &&& 7)) w) : pN Tryd.prog (oBin .and t xo yo (bv x) (bv 7)) w K := by
  have h7 : bv 7 = .int .u8 7 := rfl
  rw [h7]
  unfold bv at hk ⊢
  rw [and7_nat] at hk
  rw [pN_andn (k := .u8) 3 7 8 rfl rfl (by decide) (w_u8 (by omega))]
  simpa using hk
theorem pN_or8 {t : TypeId} {xo yo : Operand} (a : Int) (b : Nat) (ha : 0 ≤ a) (hb : b < 8) (h : 8 * a + b < 9223372036854775808) (hk : K (.int .i64 (8 * a + b)) w) : pN Tryd.prog (oBin .or t xo yo (.int .i64 (a * 8)) (.int .i64 (b : Int))) w K := by
  obtain ⟨a, rfl⟩ : ∃ n : Nat, a = n := ⟨a.toNat, by omega⟩
  rw [pN_or]
  have key : ∀ z : Int, z = 8 * (a : Int) + b → K (.int .i64 (IntKind.i64.wrap z)) w := fun z e => by
    rw [e, wrap_i64 (by omega)]; exact hk
  exact key _ (or8 a b hb (by omega))

theorem none_ok (h : Value) (hS : Sat E w (rows cd_uint8 s l :: M)) (o n : Nat) (h0 : 0 < n) (ho : o + n ≤ l.length) (hl : l.length ≤ 140737488355328)
    (hQ : ∀ w, Sat E w (rows cd_uint8 s (putL l o (A.oct 0 (n - 1))) :: M) → Q (.tuple #[]) w) :
    Calls Tryd.prog 52 #[.slice (s.sub o cd_uint8.size).a n (s.sub o cd_uint8.size).c, h] w (retP Q) := by
  refine tar_none.calls ?_
  unfold tar_none.F
  exact pc_tar_octal (octal_ok hS o n h0 ho hl 0 hQ)

theorem number_ok (hS : Sat E w L) [hr : Rds cd_uint8 L s l] (h0 : 0 < l.length) (hl : l.length ≤ 20) (hQ : Q (.int .i64 (A.num (l.take (l.length - 1)))) w) :
    Calls Tryd.prog 51 #[.slice s.a l.length s.c] w (retP Q) := by
  refine tar_number.calls ?_
  unfold tar_number.F
  have htl : (l.take (l.length - 1)).length = l.length - 1 := by rw [List.length_take]; omega
  generalize hm : l.take (l.length - 1) = m at *
  repeat' (first | (refine pN_slhw hS (l.length - 1) (by omega) rfl (by omega) ?_; intro hp) | refine pN_via (by (intro K; simp (disch := omega) only [go_sem, pN_min, pN_max, w_u32, w_u64, Option.isNone_some, Option.isNone_none]; (try simp only [wrap_u32, wrap_u64]); rfl)) ?_ | fail)
  rw [hm] at hp
  refine ⟨fun a i w' => ∃ j : Nat, j ≤ m.length ∧ a = .int .i64 (A.num (m.take j)) ∧ i = .int .i64 j ∧ w' = w, fun _ i _ => m.length - (RowKit.intOf i).toNat, ⟨0, Nat.zero_le _, rfl, rfl, rfl⟩, ?_⟩
  rintro _ _ _ _ ⟨j, hj, rfl, rfl, rfl⟩
  by_cases hlt : j < m.length
  · obtain ⟨x, hx⟩ : ∃ x, m[j]? = some x := ⟨m[j]'hlt, by simp⟩
    have hb := A.num_bd j (m.take j) (by rw [List.length_take]; omega)
    have hp8 : (8 : Int) ^ j ≤ 8 ^ 19 := by
      norm_cast
      exact Nat.pow_le_pow_right (by omega) (by omega)
    have e19 : (8 : Int) ^ 19 = 144115188075855872 := by decide
    have ex : m.take (j + 1) = m.take j ++ [x] := by
      rw [List.take_add_one, hx]
      rfl
    repeat' (first | (refine pN_lss_s ?_ ?_ <;> intro hc <;> try (exfalso; omega)) | refine pIf_t ?_ | refine pN_ld1 ha hS ?_ | refine pN_ixk hS _ (by first | rfl | (exact (Int.toNat_of_nonneg (by omega)).symm)) (by first | rfl | omega | simpa only [go_sem] using True.intro | (simp only [go_sem]; omega)) (by assumption) fun a ha hel => ?_ | refine pN_via (by (intro K; simp (disch := omega) only [go_sem, pN_min, pN_max, w_u32, w_u64, Option.isNone_some, Option.isNone_none]; (try simp only [wrap_u32, wrap_u64]); rfl)) ?_ | fail)
    refine pN_and7 x ?_
    repeat' (first | refine pN_ofb ?_ | fail)
    rw [and7_nat]
    refine pN_or8 _ _ hb.1 (by omega) (by omega) ?_
    repeat' (first | refine pN_via (by (intro K; simp (disch := omega) only [go_sem, pN_min, pN_max, w_u32, w_u64, Option.isNone_some, Option.isNone_none]; (try simp only [wrap_u32, wrap_u64]); rfl)) ?_ | fail)
    exact ⟨⟨j + 1, by omega, by rw [ex, A.num_snoc]; simp, rfl, rfl⟩, by simp [RowKit.intOf] <;> omega⟩
  · repeat' (first | (refine pN_lss_s ?_ ?_ <;> intro hc <;> try (exfalso; omega)) | refine pIf_f ?_ | fail)
    obtain rfl : j = m.length := by omega
    rw [List.take_length]
    exact hQ

theorem text_ok (hS : Sat E w L) [hr : Rds cd_uint8 L s l] (hl : l.length ≤ 140737488355328) (hQ : ∀ w, Sat E w L → Q (.string ⟨(A.text l).toArray⟩) w) :
    Calls Tryd.prog 48 #[.slice s.a l.length s.c] w (retP Q) := by
  refine tar_text.calls ?_
  unfold tar_text.F
  repeat' (first | (refine pN_b1 hS (by rfl) (by decide) ?_; clear hS; intro s w hS) | fail)
  refine pc_bytes_Cut (Cut0_ok hS hl ?_)
  clear hS
  intro s3 v1 v2 w hS hp
  repeat' (first | refine pN_st hS (by first | rfl | omega | simpa only [go_sem] using True.intro | (simp only [go_sem]; omega)) ?_ | refine pN_via (by (intro K; simp (disch := omega) only [go_sem, pN_min, pN_max, w_u32, w_u64, Option.isNone_some, Option.isNone_none]; (try simp only [wrap_u32, wrap_u64]); rfl)) ?_ | fail)
  exact hQ _ hS.to

theorem pad_ok (n : Nat) (hn : n ≤ 281474976710656) (hQ : Q (.int .i64 ((512 - n % 512) % 512 : Nat)) w) : Calls Tryd.prog 28 #[.int .i64 n] w (retP Q) := by
  refine tar_pad.calls ?_
  unfold tar_pad.F
  repeat' (first | refine pN_via (by (intro K; simp (disch := omega) only [go_sem, pN_min, pN_max, w_u32, w_u64, Option.isNone_some, Option.isNone_none]; (try simp only [wrap_u32, wrap_u64]); rfl)) ?_ | fail)
  have e : ((512 - n % 512) % 512 : Nat) = (512 - (n : Int) % 512) % 512 := by omega
  rw [e] at hQ
  exact hQ

theorem zero_ok (hS : Sat E w L) [hr : Rds cd_uint8 L s l] (hQ : Q (.bool (decide (∀ b ∈ l, b = 0))) w) : Calls Tryd.prog 32 #[.slice s.a l.length s.c] w (retP Q) := by
  refine tar_zero.calls ?_
  unfold tar_zero.F
  refine pc_bytes_TrimLeft (TrimLeft0_ok hS fun s' hp => ?_)
  by_cases h : ∀ b ∈ l, b = 0
  · rw [decide_eq_true h] at hQ
    rw [A.trim_nil.2 h]
    repeat' (first | (refine pN_eql_s ?_ ?_ <;> intro hc <;> try (exfalso; first | omega | exact hc rfl | exact hc (by assumption) | exact absurd hc (by assumption))) | refine pN_via (by (intro K; simp (disch := omega) only [go_sem, pN_min, pN_max, w_u32, w_u64, Option.isNone_some, Option.isNone_none]; (try simp only [wrap_u32, wrap_u64]); rfl)) ?_ | fail)
    exact hQ
  · rw [decide_eq_false h] at hQ
    have h0 : (A.trim l).length ≠ 0 := fun e => h (A.trim_nil.1 (List.length_eq_zero_iff.1 e))
    repeat' (first | (refine pN_eql_s ?_ ?_ <;> intro hc <;> try (exfalso; first | omega | exact hc rfl | exact hc (by assumption) | exact absurd hc (by assumption))) | refine pN_via (by (intro K; simp (disch := omega) only [go_sem, pN_min, pN_max, w_u32, w_u64, Option.isNone_some, Option.isNone_none]; (try simp only [wrap_u32, wrap_u64]); rfl)) ?_ | fail)
    exact hQ

set_option maxHeartbeats 1000000 in
theorem sum_ok (hS : Sat E w L) [hr : Rds cd_uint8 L s l] (hl : 512 ≤ l.length) (hl2 : l.length ≤ 140737488355328) (hQ : ∀ s' w, Sat E w (rows cd_uint8 s' (A.sumField l) :: L) → Q (.slice s'.a 8 s'.c) w) :
    Calls Tryd.prog 30 #[.slice s.a l.length s.c] w (retP Q) := by
  refine tar_sum.calls ?_
  unfold tar_sum.F
  have htl : (l.take 512).length = 512 := by rw [List.length_take]; omega
  generalize hm : l.take 512 = m at *
  repeat' (first | (refine pN_slhw hS 512 rfl rfl (by omega) ?_; intro hp) | refine pN_via (by (intro K; simp (disch := omega) only [go_sem, pN_min, pN_max, w_u32, w_u64, Option.isNone_some, Option.isNone_none]; (try simp only [wrap_u32, wrap_u64]); rfl)) ?_ | fail)
  rw [hm] at hp
  have hS0 := hS
  refine ⟨fun a i w' => ∃ j : Nat, j ≤ 512 ∧ a = .int .i64 (A.sumTo l j : Nat) ∧ i = .int .i64 j ∧ Sat E w' L, fun _ i _ => 512 - (RowKit.intOf i).toNat, ⟨0, Nat.zero_le _, rfl, rfl, hS⟩, ?_⟩
  clear hS hS0
  rintro _ _ _ w ⟨j, hj, rfl, rfl, hS⟩
  by_cases hlt : j < 512
  · obtain ⟨x, hx⟩ : ∃ x, m[j]? = some x := ⟨m[j]'(by omega), by simp⟩
    have hsb := A.sumTo_bd l j
    have hxl : l[j]? = some x := by
      rw [← hm, List.getElem?_take, if_pos hlt] at hx
      exact hx
    have hxd : l.getD j 0 = x := by rw [List.getD_eq_getElem?_getD, hxl]; rfl
    have hx256 := x.toNat_lt
    repeat' (first | (refine pN_lss_s ?_ ?_ <;> intro hc <;> try (exfalso; omega)) | refine pIf_t ?_ | fail)
    refine ⟨fun v w' => v = .int .i64 (A.sumTo l (j + 1) : Nat) ∧ Sat E w' L, ?_, ?_⟩
    rotate_left 1
    · clear hS
      rintro _ _ w ⟨rfl, hS⟩
      repeat' (first | refine pN_via (by (intro K; simp (disch := omega) only [go_sem, pN_min, pN_max, w_u32, w_u64, Option.isNone_some, Option.isNone_none]; (try simp only [wrap_u32, wrap_u64]); rfl)) ?_ | fail)
      exact ⟨⟨j + 1, by omega, rfl, rfl, hS⟩, by simp [RowKit.intOf] <;> omega⟩
    repeat' (first | refine pN_ld1 ha hS ?_ | refine pN_ixk hS _ (by first | rfl | (exact (Int.toNat_of_nonneg (by omega)).symm)) (by first | rfl | omega | simpa only [go_sem] using True.intro | (simp only [go_sem]; omega)) (by assumption) fun a ha hel => ?_ | fail)
    refine ⟨fun v w' => v = bv (if 148 ≤ j ∧ j < 156 then 32 else x) ∧ Sat E w' L, ?_, ?_⟩
    · by_cases h1 : 148 ≤ j
      · by_cases h2 : j < 156
        · rw [if_pos ⟨h1, h2⟩]
          repeat' (first | ((first | refine pN_lss_s ?_ ?_ | refine pN_geq_s ?_ ?_) <;> intro hc <;> try (exfalso; omega)) | refine pIf_t ?_ | refine pGd_go (by rfl) ?_ | refine pN_via (by (intro K; simp (disch := omega) only [go_sem, pN_min, pN_max, w_u32, w_u64, Option.isNone_some, Option.isNone_none]; (try simp only [wrap_u32, wrap_u64]); rfl)) ?_ | fail)
          exact ⟨rfl, hS⟩
        · rw [if_neg (by omega)]
          repeat' (first | ((first | refine pN_lss_s ?_ ?_ | refine pN_geq_s ?_ ?_) <;> intro hc <;> try (exfalso; omega)) | refine pIf_f ?_ | refine pGd_go (by rfl) ?_ | refine pN_via (by (intro K; simp (disch := omega) only [go_sem, pN_min, pN_max, w_u32, w_u64, Option.isNone_some, Option.isNone_none]; (try simp only [wrap_u32, wrap_u64]); rfl)) ?_ | fail)
          exact ⟨rfl, hS⟩
      · rw [if_neg (by omega)]
        repeat' (first | (refine pN_geq_s ?_ ?_ <;> intro hc <;> try (exfalso; omega)) | refine pIf_f ?_ | refine pGd_no (by rfl) ?_ | refine pN_via (by (intro K; simp (disch := omega) only [go_sem, pN_min, pN_max, w_u32, w_u64, Option.isNone_some, Option.isNone_none]; (try simp only [wrap_u32, wrap_u64]); rfl)) ?_ | fail)
        exact ⟨rfl, hS⟩
    clear hS
    rintro _ _ w ⟨rfl, hS⟩
    have e : A.sumTo l (j + 1) = A.sumTo l j + (if 148 ≤ j ∧ j < 156 then 32 else x).toNat := by
      rw [A.sumTo, hxd]
      split <;> rfl
    have hy := (if 148 ≤ j ∧ j < 156 then 32 else x : UInt8).toNat_lt
    rw [e]
    generalize (if 148 ≤ j ∧ j < 156 then 32 else x : UInt8) = y at *
    repeat' (first | refine pN_ofb ?_ | refine pN_via (by (intro K; simp (disch := omega) only [go_sem, pN_min, pN_max, w_u32, w_u64, Option.isNone_some, Option.isNone_none]; (try simp only [wrap_u32, wrap_u64]); rfl)) ?_ | fail)
    exact ⟨congrArg (Value.int .i64) (by omega), hS⟩
  · obtain rfl : j = 512 := by omega
    repeat' (first | (refine pN_lss_s ?_ ?_ <;> intro hc <;> try (exfalso; omega)) | refine pIf_f ?_ | (refine pN_mk hS _ (by first | rfl | (exact (Int.toNat_of_nonneg (by omega)).symm)) (by first | omega | (simp only [go_sem]; omega)) ?_; clear hS; intro s w hS) | fail)
    have hS : Sat E w (rows cd_uint8 s (List.replicate 8 0) :: L) := hS
    refine pN_slhw hS 7 rfl rfl (by decide) ?_
    intro _
    refine pc_tar_octal (octal_ok hS 0 7 (by omega) (by simp) (by simp) _ ?_)
    clear hS
    intro w hS
    have hu := A.oct_len (A.sumTo l 512) 6
    have e : putL (List.replicate 8 (0 : UInt8)) 0 (A.oct (A.sumTo l 512) (7 - 1)) = A.oct (A.sumTo l 512) 6 ++ [0, 0] := by
      rw [show (7 - 1 : Nat) = 6 from rfl, putL, hu]
      rfl
    rw [e] at hS
    have hl8 : (A.oct (A.sumTo l 512) 6 ++ [0, 0]).length = 8 := by rw [List.length_append, hu]; rfl
    have e2 : (A.oct (A.sumTo l 512) 6 ++ [0, 0]).set 7 32 = A.sumField l := by
      rw [List.set_append_right _ _ (by omega), hu]
      rfl
    repeat' (first | refine pN_ix hS _ (by first | rfl | (exact (Int.toNat_of_nonneg (by omega)).symm)) (by first | rfl | omega | simpa only [go_sem] using True.intro | (simp only [go_sem]; omega)) (by first | omega | (simp only [go_sem]; omega)) fun a x hx ha hel => ?_ | (refine pN_sr hel hS (by rfl) (by rfl) (by first | omega | (simp only [go_sem]; omega)) ?_; clear hS; intro w hS) | fail)
    have hl9 : (A.sumField l).length = 8 := by rw [← e2, List.length_set, hl8]
    rw [e2] at hS
    exact hQ _ _ hS

theorem parted_ok (hl : l.length ≤ 140737488355328) (hQ : ∀ w, Sat E w L → Q (.tuple #[.string ⟨(A.parted l).1.toArray⟩, .string ⟨(A.parted l).2.1.toArray⟩, .bool (A.parted l).2.2]) w) (hS : Sat E w L) :
    Calls Tryd.prog 43 #[.string ⟨l.toArray⟩] w (retP Q) := by
  refine tar_parted.calls ?_
  unfold tar_parted.F
  have e0 : (.string ⟨#[]⟩ : Value) = .string ⟨List.toArray []⟩ := rfl
  rw [e0]
  by_cases h1 : l = [] ∨ 0 ∈ l
  · have hp : A.parted l = ([], [], false) := by rw [A.parted, if_pos h1]
    rw [hp] at hQ
    have h2 : ¬ l = [] → 0 ≤ A.ixb l 0 := fun hn => A.ixb_mem.2 (h1.resolve_left hn)
    repeat' (first | (refine pc_strings_IndexByte (sIndexByte_ok 0 ?_); have h3 := h2 (by assumption)) | (refine pN_geq_s ?_ ?_ <;> intro hc <;> try (exfalso; omega)) | (refine pN_eql_ss ?_ ?_ <;> intro hc <;> try (exfalso; first | omega | exact hc rfl | exact hc (by assumption) | exact absurd hc (by assumption))) | refine pIf_t ?_ | refine pGd_go (by rfl) ?_ | refine pGd_no (by rfl) ?_ | refine pN_via (by (intro K; simp (disch := omega) only [go_sem, pN_min, pN_max, w_u32, w_u64, Option.isNone_some, Option.isNone_none]; (try simp only [wrap_u32, wrap_u64]); rfl)) ?_ | fail)
    all_goals exact hQ _ hS
  have h2 : ¬ l = [] := fun e => h1 (.inl e)
  have h3 : ¬ 0 ≤ A.ixb l 0 := fun e => h1 (.inr (A.ixb_mem.1 e))
  by_cases h4 : l.length ≤ 100
  · have hp : A.parted l = ([], l, true) := by rw [A.parted, if_neg h1, if_pos h4]
    rw [hp] at hQ
    repeat' (first | (refine pc_strings_IndexByte (sIndexByte_ok 0 ?_)) | refine pN_slen ?_ | ((first | refine pN_leq_s ?_ ?_ | refine pN_geq_s ?_ ?_) <;> intro hc <;> try (exfalso; omega)) | (refine pN_eql_ss ?_ ?_ <;> intro hc <;> try (exfalso; first | omega | exact hc rfl | exact hc (by assumption) | exact absurd hc (by assumption))) | refine pIf_t ?_ | refine pIf_f ?_ | refine pGd_go (by rfl) ?_ | refine pN_via (by (intro K; simp (disch := omega) only [go_sem, pN_min, pN_max, w_u32, w_u64, Option.isNone_some, Option.isNone_none]; (try simp only [wrap_u32, wrap_u64]); rfl)) ?_ | fail)
    all_goals exact hQ _ hS
  have hpn : A.slash l (max 1 (l.length - 101)) = none → A.parted l = ([], [], false) := fun e => by rw [A.parted, if_neg h1, if_neg h4, e]
  have hps : ∀ i, A.slash l (max 1 (l.length - 101)) = some i → A.parted l = (l.take i, l.drop (i + 1), decide (i ≤ 155 ∧ i + 1 < l.length)) := fun i e => by rw [A.parted, if_neg h1, if_neg h4, e]
  generalize hm0 : max 1 (l.length - 101) = m0 at *
  have hm1 : (max 1 ((l.length : Int) - 1 - 100)) = (m0 : Int) := by omega
  repeat' (first | (refine pc_strings_IndexByte (sIndexByte_ok 0 ?_)) | refine pN_slen ?_ | ((first | refine pN_leq_s ?_ ?_ | refine pN_geq_s ?_ ?_) <;> intro hc <;> try (exfalso; omega)) | (refine pN_eql_ss ?_ ?_ <;> intro hc <;> try (exfalso; first | omega | exact hc rfl | exact hc (by assumption) | exact absurd hc (by assumption))) | refine pIf_f ?_ | refine pGd_go (by rfl) ?_ | refine pN_via (by (intro K; simp (disch := omega) only [go_sem, pN_min, pN_max, w_u32, w_u64, Option.isNone_some, Option.isNone_none]; (try simp only [wrap_u32, wrap_u64]); rfl)) ?_ | fail)
  rw [hm1]
  refine ⟨fun v w' => ∃ i : Nat, v = .int .i64 i ∧ m0 ≤ i ∧ A.slash l m0 = A.slash l i ∧ Sat E w' L, fun v _ => l.length - (RowKit.intOf v).toNat, ⟨m0, rfl, Nat.le_refl _, rfl, hS⟩, ?_⟩
  clear hS
  rintro _ _ w ⟨i, rfl, hi, hsl, hS⟩
  by_cases hlt : i < l.length
  · obtain ⟨x, hx⟩ : ∃ x, l[i]? = some x := ⟨l[i]'hlt, by simp⟩
    by_cases h47 : x = 47
    · subst h47
      rw [A.slash_hit hx] at hsl
      rw [hps _ hsl] at hQ
      by_cases h5 : i ≤ 155
      · by_cases h6 : i + 1 < l.length
        · rw [decide_eq_true ⟨h5, h6⟩] at hQ
          repeat' (first | refine pN_slen ?_ | refine pA_slen ?_ | refine pN_sidx _ (by first | rfl | (exact (Int.toNat_of_nonneg (by omega)).symm)) (by first | assumption | rfl) ?_ | refine pA_ssl1 _ (by first | rfl | (exact (Int.toNat_of_nonneg (by omega)).symm)) (by first | omega | (simp only [go_sem]; omega)) ?_ | refine pA_sslh _ (by first | rfl | (exact (Int.toNat_of_nonneg (by omega)).symm)) (by first | omega | (simp only [go_sem]; omega)) ?_ | ((first | refine pN_lss_s ?_ ?_ | refine pA_lss_s ?_ ?_ | refine pA_leq_s ?_ ?_) <;> intro hc <;> try (exfalso; omega)) | (refine pN_eql_s ?_ ?_ <;> intro hc <;> try (exfalso; first | omega | exact hc rfl | exact hc (by assumption) | exact absurd hc (by assumption))) | refine pIf_t ?_ | refine gA_go (by rfl) ?_ | (refine pDr_go hS ?_; clear hS; intro w hS) | refine pA_via (by (intro K; simp (disch := omega) only [go_sem, pN_min, pN_max, w_u32, w_u64, Option.isNone_some, Option.isNone_none]; (try simp only [wrap_u32, wrap_u64]); rfl)) ?_ | fail)
          exact hQ _ hS
        · rw [decide_eq_false (fun h => h6 h.2)] at hQ
          repeat' (first | refine pN_slen ?_ | refine pA_slen ?_ | refine pN_sidx _ (by first | rfl | (exact (Int.toNat_of_nonneg (by omega)).symm)) (by first | assumption | rfl) ?_ | refine pA_ssl1 _ (by first | rfl | (exact (Int.toNat_of_nonneg (by omega)).symm)) (by first | omega | (simp only [go_sem]; omega)) ?_ | refine pA_sslh _ (by first | rfl | (exact (Int.toNat_of_nonneg (by omega)).symm)) (by first | omega | (simp only [go_sem]; omega)) ?_ | ((first | refine pN_lss_s ?_ ?_ | refine pA_lss_s ?_ ?_ | refine pA_leq_s ?_ ?_) <;> intro hc <;> try (exfalso; omega)) | (refine pN_eql_s ?_ ?_ <;> intro hc <;> try (exfalso; first | omega | exact hc rfl | exact hc (by assumption) | exact absurd hc (by assumption))) | refine pIf_t ?_ | refine gA_go (by rfl) ?_ | (refine pDr_go hS ?_; clear hS; intro w hS) | refine pA_via (by (intro K; simp (disch := omega) only [go_sem, pN_min, pN_max, w_u32, w_u64, Option.isNone_some, Option.isNone_none]; (try simp only [wrap_u32, wrap_u64]); rfl)) ?_ | fail)
          exact hQ _ hS
      · rw [decide_eq_false (fun h => h5 h.1)] at hQ
        repeat' (first | refine pN_slen ?_ | refine pN_sidx _ (by first | rfl | (exact (Int.toNat_of_nonneg (by omega)).symm)) (by first | assumption | rfl) ?_ | refine pA_ssl1 _ (by first | rfl | (exact (Int.toNat_of_nonneg (by omega)).symm)) (by first | omega | (simp only [go_sem]; omega)) ?_ | refine pA_sslh _ (by first | rfl | (exact (Int.toNat_of_nonneg (by omega)).symm)) (by first | omega | (simp only [go_sem]; omega)) ?_ | ((first | refine pN_lss_s ?_ ?_ | refine pA_leq_s ?_ ?_) <;> intro hc <;> try (exfalso; omega)) | (refine pN_eql_s ?_ ?_ <;> intro hc <;> try (exfalso; first | omega | exact hc rfl | exact hc (by assumption) | exact absurd hc (by assumption))) | refine pIf_t ?_ | refine gA_no (by rfl) ?_ | (refine pDr_go hS ?_; clear hS; intro w hS) | refine pA_via (by (intro K; simp (disch := omega) only [go_sem, pN_min, pN_max, w_u32, w_u64, Option.isNone_some, Option.isNone_none]; (try simp only [wrap_u32, wrap_u64]); rfl)) ?_ | fail)
        exact hQ _ hS
    · have h48 : ¬ (x.toNat : Int) = ((47 : UInt8).toNat : Int) := fun e => h47 (UInt8.toNat_inj.1 (by omega))
      rw [A.slash_miss hx h47] at hsl
      repeat' (first | refine pN_slen ?_ | refine pN_sidx _ (by first | rfl | (exact (Int.toNat_of_nonneg (by omega)).symm)) (by first | assumption | rfl) ?_ | (refine pN_lss_s ?_ ?_ <;> intro hc <;> try (exfalso; omega)) | (refine pN_eql_s ?_ ?_ <;> intro hc <;> try (exfalso; first | omega | exact hc rfl | exact hc (by assumption) | exact absurd hc (by assumption))) | refine pIf_t ?_ | refine pIf_f ?_ | refine pN_via (by (intro K; simp (disch := omega) only [go_sem, pN_min, pN_max, w_u32, w_u64, Option.isNone_some, Option.isNone_none]; (try simp only [wrap_u32, wrap_u64]); rfl)) ?_ | fail)
      exact ⟨⟨i + 1, rfl, by omega, hsl, hS⟩, by simp [RowKit.intOf] <;> omega⟩
  · rw [A.slash_out (l := l) (i := i) (by omega)] at hsl
    rw [hpn hsl] at hQ
    repeat' (first | refine pN_slen ?_ | (refine pN_lss_s ?_ ?_ <;> intro hc <;> try (exfalso; omega)) | refine pIf_f ?_ | fail)
    exact hQ _ hS
end

end Go.Proofs.YteeepkimnpabiaaDoor
