/-
  The statement TreeTwoOrders, walked: back is the other way round; the way alone moves.
-/
import Derived.Test.YtoejaggkedlfmaaTreeLaw
namespace Go.Proofs.Ytoejaggkedlfmaa
open Go
set_option linter.unusedSimpArgs false
set_option linter.unusedVariables false
attribute [local irreducible] oMv oV oU oCall oCallV oBi oBin oUn oLoad oStore oNil oFld oField oIdx oIndex oPick oAlloc oBox oBuild oBs oConv oMk oSl oExt oFn oIface oMap oLook oMapUp oRange oNext oAssert oPanic oRes pN pA pL pDr pIf gA pGd

namespace R
/-- The first j bits of v the other way round. -/
def rev (v : Int) : Nat → Int
  | 0 => 0
  | j + 1 => 2 * rev v j + v / 2 ^ j % 2
theorem rev_holds (v : Int) : ∀ j, 0 ≤ rev v j ∧ rev v j < 2 ^ j
  | 0 => by simp [rev]
  | j + 1 => by
    have := rev_holds v j
    simp only [rev, Int.pow_succ]
    generalize (2 : Int) ^ j = W at *
    omega
theorem rev_bit (v : Int) : ∀ (j k : Nat), k < j → rev v j / 2 ^ (j - 1 - k) % 2 = v / 2 ^ k % 2
  | 0, k, h => by omega
  | j + 1, k, h => by
    simp only [rev]
    by_cases c : k = j
    · subst c
      rw [show k + 1 - 1 - k = 0 from by omega, Int.pow_zero, Int.ediv_one]
      omega
    · have ih := rev_bit v j k (by omega)
      have e : (2 : Int) ^ (j - 1 - k + 1) = 2 * 2 ^ (j - 1 - k) := by rw [Int.pow_succ, Int.mul_comm]
      rw [show j + 1 - 1 - k = (j - 1 - k) + 1 from by omega, e, ← Int.ediv_ediv_of_nonneg (by omega : (0 : Int) ≤ 2)]
      rw [show (2 * rev v j + v / 2 ^ j % 2) / 2 = rev v j from by omega]
      exact ih
theorem rev_bitAt (v : Int) (n k : Nat) (h : k < n) : bitAt false n (rev v n) k = bitAt true n v k := by
  simp only [bitAt, Bool.false_eq_true, if_false, if_true]
  exact rev_bit v n k h
theorem node_congr {f g : Nat → Int} : ∀ k, (∀ j, j < k → f j = g j) → node f k = node g k
  | 0, _ => rfl
  | k + 1, h => by simp only [node]; rw [node_congr k fun j hj => h j (by omega), h k (by omega)]
theorem costs_congr (l : List Int) (at_ : Int) {f g : Nat → Int} : ∀ k, (∀ j, j < k → f j = g j) → costs l at_ f k = costs l at_ g k
  | 0, _ => rfl
  | k + 1, h => by
    simp only [costs]
    rw [costs_congr l at_ k fun j hj => h j (by omega), node_congr k fun j hj => h j (by omega), h k (by omega)]
theorem put_congr (a : TS) (at_ : Int) {f g : Nat → Int} : ∀ k, (∀ j, j < k → f j = g j) → a.put at_ f k = a.put at_ g k
  | 0, _ => rfl
  | k + 1, h => by
    simp only [TS.put]
    rw [put_congr a at_ k fun j hj => h j (by omega), node_congr k fun j hj => h j (by omega), h k (by omega)]

/-- At how many of the first places two rows differ. -/
def diff (l m : List Int) : Nat → Nat
  | 0 => 0
  | j + 1 => diff l m j + if l.getD j 0 = m.getD j 0 then 0 else 1
theorem diff_self (l : List Int) : ∀ j, diff l l j = 0
  | 0 => rfl
  | j + 1 => by simp [diff, diff_self l j]
theorem diff_le (l m : List Int) : ∀ j, diff l m j ≤ j
  | 0 => Nat.le_refl _
  | j + 1 => by simp only [diff]; have := diff_le l m j; split <;> omega
theorem diff_set (l m : List Int) (i : Nat) (x : Int) : ∀ j, diff (l.set i x) m j ≤ diff l m j + (if i < j then 1 else 0)
  | 0 => by simp [diff]
  | j + 1 => by
    have ih := diff_set l m i x j
    simp only [diff]
    by_cases c : i = j
    · subst c
      rw [if_neg (by omega)] at ih
      rw [if_pos (show i < i + 1 by omega)]
      split <;> split <;> omega
    · have e : (l.set i x).getD j 0 = l.getD j 0 := by
        rw [List.getD_eq_getElem?_getD, List.getElem?_set, if_neg c, ← List.getD_eq_getElem?_getD]
      rw [e]
      have : (if i < j then 1 else 0) = (if i < j + 1 then 1 else 0) := by split <;> split <;> omega
      omega
theorem diff_put (a : TS) (at_ : Int) (bs : Nat → Int) (m : Nat) : ∀ k, diff (a.put at_ bs k).l a.l m ≤ k
  | 0 => by simp only [TS.put]; rw [diff_self]; exact Nat.le_refl _
  | k + 1 => by
    have ih := diff_put a at_ bs m k
    have := diff_set (a.put at_ bs k).l a.l (at_ + node bs k).toNat (B.next ((a.put at_ bs k).l.getD (at_ + node bs k).toNat 0) (bs k)) m
    have h2 : (if (at_ + node bs k).toNat < m then 1 else 0) ≤ 1 := by split <;> omega
    simp only [TS.put, TS.bit]
    omega
end R

section
variable {E w : World} {M : List HA} {Q : Value → World → Prop} {a b : Nat} {l : List Int}

theorem turned_ok (n : Nat) (v : Int) (hn : n ≤ 16) (v0 : 0 ≤ v) (hQ : Q (.int .i64 (R.rev v n)) w) : Calls Try.prog 64 #[.int .i64 n, .int .i64 v] w (retP Q) := by
  refine pithlaw09_turned.calls ?_
  unfold pithlaw09_turned.F
  refine ⟨fun r i w' => ∃ j : Nat, r = .int .i64 (R.rev v j) ∧ i = .int .i64 j ∧ j ≤ n ∧ w' = w, fun _ i _ => n - (RowKit.intOf i).toNat, ⟨0, rfl, rfl, Nat.zero_le _, rfl⟩, ?_⟩
  rintro _ _ _ w1 ⟨j, rfl, rfl, hj, rfl⟩
  have hr := R.rev_holds v j
  have h2 : (2 : Int) ^ j ≤ 2 ^ 16 := R.two_le (by omega)
  have e2 : (2 : Int) ^ 16 = 65536 := by decide
  repeat' (first | refine pN_shr_k _ rfl (by show _ ≤ 64; omega) ?_ | (refine pN_lss_s ?_ ?_ <;> intro hc <;> try (exfalso; omega)) | refine pIf_t ?_ | refine pIf_f ?_ | refine pN_via (by (intro K; simp (disch := omega) only [go_sem, pN_min, pN_max, w_u32, w_u64, Option.isNone_some, Option.isNone_none]; (try simp only [wrap_u32, wrap_u64]); rfl)) ?_ | fail)
  · exact ⟨⟨j + 1, rfl, rfl, by omega, rfl⟩, by simp [RowKit.intOf] <;> omega⟩
  · obtain rfl : j = n := by omega
    exact hQ

theorem alike9_ok (hS : Sat E w (PSet a l :: PSet b l :: M)) (hl : l.length ≤ 1048576) (hQ : ∀ w, Sat E w (PSet a l :: PSet b l :: M) → Q (.bool true) w) :
    Calls Try.prog 65 #[.pointer (some ⟨a, 0, none⟩), .pointer (some ⟨b, 0, none⟩)] w (retP Q) := by
  refine pithlaw09_alike.calls ?_
  unfold pithlaw09_alike.F
  repeat' (first | (refine pc_prob_Set_Len (Len_ok (hS.fd (PSet _)) ?_); clear hS; intro w hS) | (refine pN_neq_s ?_ ?_ <;> intro hc <;> try (exfalso; first | omega | exact hc rfl | exact hc (by assumption) | exact absurd hc (by assumption))) | refine pIf_f ?_ | fail)
  refine ⟨fun v w => ∃ j : Nat, v = .int .i64 j ∧ j ≤ l.length ∧ Sat E w (PSet a l :: PSet b l :: M), fun v _ => l.length - (RowKit.intOf v).toNat, ⟨0, rfl, Nat.zero_le _, hS.to⟩, ?_⟩
  clear hS
  rintro _ _ w ⟨j, rfl, hj, hS⟩
  refine pc_prob_Set_Len (Len_ok (hS.fd (PSet a)) fun w hS => ?_)
  by_cases hlt : j < l.length
  · obtain ⟨y, hy⟩ : ∃ y, l[j]? = some y := ⟨l[j]'hlt, by simp⟩
    repeat' (first | (refine pc_prob_Set_At (At_in (hS.fd (PSet _)) _ (by omega) (by rw [Int.toNat_natCast]; exact hy) ?_); clear hS; intro w hS) | (refine pN_lss_s ?_ ?_ <;> intro hc <;> try (exfalso; omega)) | (refine pN_neq_s ?_ ?_ <;> intro hc <;> try (exfalso; first | omega | exact hc rfl | exact hc (by assumption) | exact absurd hc (by assumption))) | refine pIf_t ?_ | refine pIf_f ?_ | refine pGd_go (by rfl) ?_ | refine pN_via (by (intro K; simp (disch := omega) only [go_sem, pN_min, pN_max, w_u32, w_u64, Option.isNone_some, Option.isNone_none]; (try simp only [wrap_u32, wrap_u64]); rfl)) ?_ | fail)
    exact ⟨⟨j + 1, rfl, by omega, hS.to⟩, by simp [RowKit.intOf] <;> omega⟩
  · repeat' (first | (refine pN_lss_s ?_ ?_ <;> intro hc <;> try (exfalso; omega)) | refine pIf_f ?_ | fail)
    exact hQ _ hS.to
end

set_option maxHeartbeats 4000000 in
theorem walk_TreeTwoOrders (W : World) (x0 x1 : Int) (x2 : Sl × List Bool) (k0 k1 k2 : Nat) (h0 : -9223372036854775808 ≤ x0 ∧ x0 < 9223372036854775808) (h1 : -9223372036854775808 ≤ x1 ∧ x1 < 9223372036854775808)
    (h2 : RdP cd_bool (old W) x2.1 x2.2 ∧ x2.2.length * 1 ≤ reachBytes ∧ x2.2.length + 1 ≤ k2 ∧ ∀ c ∈ x2.2, ∃ k, k ≤ k2 ∧ True) (q0 : k0 ≤ 1048576) (q1 : k1 ≤ 1048576) (q2 : k2 ≤ 1048576) :
    Calls Try.prog 12 #[.int .i64 x0, .int .i64 x1, .slice x2.1.a x2.2.length x2.1.c] W fun e W' => e = .returned (.bool true) ∧ RowKit.Below W.heap.size W W' := by
  refine walk_end (pithlaw09_TreeTwoOrders.calls ?_)
  unfold pithlaw09_TreeTwoOrders.F
  obtain ⟨r2, _, hk2, _⟩ := h2
  have hS := Sat.start W
  have e16 : (2 : Int) ^ 16 = 65536 := by decide
  have p2 : 0 ≤ x0 → x0 ≤ 16 → (0 : Int) < 2 ^ x0.toNat ∧ (2 : Int) ^ x0.toNat ≤ 65536 := fun a b => ⟨Int.pow_pos (by omega), by rw [← e16]; exact R.two_le (by omega)⟩
  have shl : ∀ (xo yo : Operand) (w : World) (K : Value → World → Prop), 0 ≤ x0 → x0 ≤ 16 → K (.int .i64 (2 ^ x0.toNat)) w → pN Try.prog (oBin .shl 3 xo yo (.int .i64 1) (.int .i64 x0)) w K := by
    intro xo yo w K h0 h1 h
    have := p2 h0 h1
    refine pN_shl_k x0.toNat (Int.toNat_of_nonneg h0).symm (by show _ ≤ 64; omega) ?_
    rw [Int.one_mul, wrap_i64 (by omega)]
    exact h
  repeat' (first | refine shl _ _ _ _ (by omega) (by omega) ?_ | (refine pc_pithlaw09_fixed (fixed_ok hS ?_); clear hS; intro w hS) | ((first | refine pN_lss_s ?_ ?_ | refine pN_gtr_s ?_ ?_ | refine pN_geq_s ?_ ?_) <;> intro hc <;> try (exfalso; omega)) | refine pIf_t ?_ | refine pIf_f ?_ | refine pGd_go (by rfl) ?_ | refine pGd_no (by rfl) ?_ | refine pN_via (by (intro K; simp (disch := omega) only [go_sem, pN_min, pN_max, w_u32, w_u64, Option.isNone_some, Option.isNone_none]; (try simp only [wrap_u32, wrap_u64]); rfl)) ?_ | fail)
  all_goals try exact ⟨rfl, hS.to⟩
  obtain ⟨p3, p4⟩ := p2 (by omega) (by omega)
  obtain ⟨n, rfl⟩ : ∃ n : Nat, x0 = n := ⟨x0.toNat, by omega⟩
  simp only [Int.toNat_natCast] at *
  refine pc_prob_New (New_ok hS (2 ^ n + 9) (by omega) (by omega) fun p w hS => ?_)
  have ecast : ((2 ^ n : Nat) : Int) = 2 ^ n := by norm_cast
  have el : ((2 : Int) ^ n + 9).toNat = 2 ^ n + 9 := by omega
  rw [el] at hS
  repeat' (first | (refine pN_neq_s ?_ ?_ <;> intro hc <;> try (exfalso; first | omega | exact hc rfl | exact hc (by assumption) | exact absurd hc (by assumption))) | refine pIf_f ?_ | refine pGd_go (by rfl) ?_ | refine pN_via (by (intro K; simp (disch := omega) only [go_sem, pN_min, pN_max, w_u32, w_u64, Option.isNone_some, Option.isNone_none]; (try simp only [wrap_u32, wrap_u64]); rfl)) ?_ | fail)
  have hlen0 : (List.replicate (2 ^ n + 9) (1024 : Int)).length = 2 ^ n + 9 := List.length_replicate
  refine ⟨fun v w => ∃ (i : Nat) (l : List Int), v = .int .i64 i ∧ i ≤ x2.2.length ∧ l.length = 2 ^ n + 9 ∧ B.Fine l ∧ Sat W w (PSet p l :: [old W]), fun v _ => x2.2.length - (RowKit.intOf v).toNat,
    ⟨0, _, rfl, Nat.zero_le _, hlen0, B.Fine.new _, hS.to⟩, ?_⟩
  clear hS
  rintro _ _ w ⟨i, l, rfl, hi, hl, hf, hS⟩
  have hpn : 2 ^ n ≤ 65536 := by omega
  by_cases hlt : i < x2.2.length
  · obtain ⟨y, hy⟩ : ∃ y, x2.2[i]? = some y := ⟨x2.2[i]'hlt, by simp⟩
    repeat' (first | (refine pN_lss_s ?_ ?_ <;> intro hc <;> try (exfalso; omega)) | refine pIf_t ?_ | refine pN_via (by (intro K; simp (disch := omega) only [go_sem, pN_min, pN_max, w_u32, w_u64, Option.isNone_some, Option.isNone_none]; (try simp only [wrap_u32, wrap_u64]); rfl)) ?_ | fail)
    refine ⟨_, ?_, fun _ _ h => h⟩
    refine ⟨fun v w => ∃ t : Int, v = .int .i64 t ∧ Sat W w (PSet p l :: [old W]), ?_, ?_⟩
    · cases y
      · repeat' (first | refine pIf_f ?_ | refine pN_ld1 ha hS ?_ | refine pN_ixk hS _ (by first | rfl | (exact (Int.toNat_of_nonneg (by omega)).symm)) (by first | rfl | omega | simpa only [go_sem] using True.intro | (simp only [go_sem]; omega)) (by assumption) fun a ha hel => ?_ | fail)
        exact ⟨0, rfl, hS.to⟩
      · repeat' (first | refine pIf_t ?_ | refine pN_ld1 ha hS ?_ | refine pN_ixk hS _ (by first | rfl | (exact (Int.toNat_of_nonneg (by omega)).symm)) (by first | rfl | omega | simpa only [go_sem] using True.intro | (simp only [go_sem]; omega)) (by assumption) fun a ha hel => ?_ | fail)
        exact ⟨1, rfl, hS.to⟩
    clear hS
    rintro _ _ w ⟨t, rfl, hS⟩
    have hii : (i : Int) * i ≤ 1048576 * 1048576 := Int.mul_le_mul (by omega) (by omega) (by omega) (by omega)
    have hi0 : 0 ≤ (i : Int) * i := Int.mul_nonneg (by omega) (by omega)
    repeat' (first | (refine pc_prob_Set_Len (Len_ok (hS.fd (PSet p)) ?_); clear hS; intro w hS) | refine pN_via (by (intro K; simp (disch := omega) only [go_sem, pN_min, pN_max, w_u32, w_u64, Option.isNone_some, Option.isNone_none]; (try simp only [wrap_u32, wrap_u64]); rfl)) ?_ | fail)
    obtain ⟨m0, m1⟩ : 0 ≤ ((i : Int) * i + 5) % (l.length : Int) ∧ ((i : Int) * i + 5) % (l.length : Int) < l.length := ⟨Int.emod_nonneg _ (by omega), Int.emod_lt_of_pos _ (by omega)⟩
    generalize ((i : Int) * i + 5) % (l.length : Int) = m at m0 m1 ⊢
    obtain ⟨z, hz⟩ : ∃ z, l[m.toNat]? = some z := ⟨l[m.toNat]'(by omega), by simp⟩
    have hzf := hf.get hz
    repeat' (first | (refine pc_prob_Set_Turn (Turn_in (hS.fd (PSet p)) _ _ m0 hz ?_); clear hS; intro w hS) | (refine pN_neq_s ?_ ?_ <;> intro hc <;> try (exfalso; first | omega | exact hc rfl | exact hc (by assumption) | exact absurd hc (by assumption))) | refine pIf_f ?_ | refine pN_via (by (intro K; simp (disch := omega) only [go_sem, pN_min, pN_max, w_u32, w_u64, Option.isNone_some, Option.isNone_none]; (try simp only [wrap_u32, wrap_u64]); rfl)) ?_ | fail)
    exact ⟨⟨i + 1, l.set m.toNat (B.next z t), rfl, by omega, by rw [List.length_set]; exact hl, hf.set _ ⟨B.next_lo _ hzf.1 hzf.2, B.next_hi _ hzf.1 hzf.2⟩, hS.to⟩, by simp [RowKit.intOf] <;> omega⟩
  have hl20 : l.length ≤ 1048576 := by omega
  repeat' (first | (refine pN_lss_s ?_ ?_ <;> intro hc <;> try (exfalso; omega)) | refine pIf_f ?_ | refine pN_via (by (intro K; simp (disch := omega) only [go_sem, pN_min, pN_max, w_u32, w_u64, Option.isNone_some, Option.isNone_none]; (try simp only [wrap_u32, wrap_u64]); rfl)) ?_ | fail)
  refine pc_prob_Set_Fork (Fork_ok (hS.fd (PSet p)) hl20 fun u w hS => ?_)
  refine pc_prob_Set_Fork (Fork_ok (hS.fd (PSet p)) hl20 fun q w hS => ?_)
  refine pc_rcenc_New (NewE_ok hS fun e w hS => ?_)
  refine pc_rcenc_New (NewE_ok hS fun f w hS => ?_)
  have hb := R.bitAt_01 true n x1
  have hbf := R.bitAt_01 false n (R.rev x1 n)
  have ht : ∀ l : List Int, l.length = 2 ^ n + 9 → R.There l.length 9 n := fun l hl => by
    unfold R.There
    rw [hl, Int.toNat_natCast]
    omega
  have hh : R.Holds x1 n := by unfold R.Holds; rw [Int.toNat_natCast]; omega
  have hhr : R.Holds (R.rev x1 n) n := by unfold R.Holds; rw [Int.toNat_natCast]; exact R.rev_holds x1 n
  have hcg : ∀ j, j < n → R.bitAt false n (R.rev x1 n) j = R.bitAt true n x1 j := fun j hj => R.rev_bitAt x1 n j hj
  have ec : R.costs l 9 (R.bitAt false n (R.rev x1 n)) n = R.costs l 9 (R.bitAt true n x1) n := R.costs_congr l 9 n hcg
  have ep : R.TS.put ⟨R.S.new, l⟩ 9 (R.bitAt false n (R.rev x1 n)) n = R.TS.put ⟨R.S.new, l⟩ 9 (R.bitAt true n x1) n := R.put_congr _ 9 n hcg
  have hd := R.diff_put ⟨R.S.new, l⟩ 9 (R.bitAt true n x1) l.length n
  have hpl := R.TS.put_len ⟨R.S.new, l⟩ 9 (R.bitAt true n x1) n
  have oa : R.TS.Ok ⟨R.S.new, l⟩ := ⟨R.Ok.new, hf⟩
  have hk := (oa.put (ht l hl) hb n (by rw [Int.toNat_natCast]; exact Nat.le_refl _)).2
  have hkn : R.S.new.k = 0 := rfl
  dsimp only at hpl hd hk
  refine pc_pithlaw09_turned (turned_ok n x1 (by omega) (by omega) ?_)
  refine pc_tree_Cost (TCost_in (hS.fd (PSet p)) 9 n _ hl20 (ht l hl) hhr fun w hS => ?_)
  rw [Int.toNat_natCast, ec]
  repeat' (first | refine pN_via (by (intro K; simp (disch := omega) only [go_sem, pN_min, pN_max, w_u32, w_u64, Option.isNone_some, Option.isNone_none]; (try simp only [wrap_u32, wrap_u64]); rfl)) ?_ | fail)
  refine pc_tree_CostBack (TCostBack_in (hS.fd (PSet q)) 9 n _ hl20 (ht l hl) hh fun w hS => ?_)
  rw [Int.toNat_natCast]
  repeat' (first | refine pc_pithlaw09_turned (turned_ok n x1 (by omega) (by omega) ?_) | (refine pc_tree_Put (Put_in (hS.fd2 (Enc e) (PSet p)) R.Ok.new hf fixed_k 9 n _ hl20 (ht l hl) hhr ?_); clear hS; intro w hS; rw [Int.toNat_natCast, ep] at hS) | (refine pc_tree_PutBack (PutBack_in (hS.fd2 (Enc f) (PSet q)) R.Ok.new hf fixed_k 9 n _ hl20 (ht l hl) hh ?_); clear hS; intro w hS; rw [Int.toNat_natCast] at hS) | (refine pN_neq_s ?_ ?_ <;> intro hc <;> try (exfalso; first | omega | exact hc rfl | exact hc (by assumption) | exact absurd hc (by assumption))) | refine pIf_f ?_ | refine pGd_go (by rfl) ?_ | refine pN_via (by (intro K; simp (disch := omega) only [go_sem, pN_min, pN_max, w_u32, w_u64, Option.isNone_some, Option.isNone_none]; (try simp only [wrap_u32, wrap_u64]); rfl)) ?_ | fail)
  generalize R.TS.put ⟨R.S.new, l⟩ 9 (R.bitAt true n x1) n = r at hd hpl hk hS
  obtain ⟨s, m⟩ := r
  dsimp only at hpl hd hk hS
  refine ⟨fun c v w => ∃ i : Nat, c = .int .i64 (R.diff m l i) ∧ v = .int .i64 i ∧ i ≤ m.length ∧ Sat W w (PSet p m :: PSet q m :: PSet u l :: Enc e s :: Enc f s :: [old W]), fun _ v _ => m.length - (RowKit.intOf v).toNat, ⟨0, rfl, rfl, Nat.zero_le _, hS.to⟩, ?_⟩
  clear hS
  rintro _ _ _ w ⟨i, rfl, rfl, hi2, hS⟩
  refine pc_prob_Set_Len (Len_ok (hS.fd (PSet p)) fun w hS => ?_)
  have hdl := R.diff_le m l i
  by_cases hlt2 : i < m.length
  · obtain ⟨y, hy⟩ : ∃ y, m[i]? = some y := ⟨m[i]'hlt2, by simp⟩
    obtain ⟨z, hz⟩ : ∃ z, l[i]? = some z := ⟨l[i]'(by omega), by simp⟩
    have hd1 : R.diff m l (i + 1) = R.diff m l i + if y = z then 0 else 1 := by
      simp only [R.diff, List.getD_eq_getElem?_getD, hy, hz, Option.getD_some]
    repeat' (first | (refine pN_lss_s ?_ ?_ <;> intro hc <;> try (exfalso; omega)) | refine pIf_t ?_ | fail)
    refine ⟨fun c w => c = .int .i64 (R.diff m l (i + 1)) ∧ Sat W w (PSet p m :: PSet q m :: PSet u l :: Enc e s :: Enc f s :: [old W]), ?_, ?_⟩
    · refine pc_prob_Set_At (At_in (hS.fd (PSet p)) (i : Int) (by omega) (by rw [Int.toNat_natCast]; exact hy) ?_)
      clear hS
      intro w hS
      repeat' (first | refine pN_via (by (intro K; simp (disch := omega) only [go_sem, pN_min, pN_max, w_u32, w_u64, Option.isNone_some, Option.isNone_none]; (try simp only [wrap_u32, wrap_u64]); rfl)) ?_ | fail)
      refine pc_prob_Set_At (At_in (hS.fd (PSet u)) (i : Int) (by omega) (by rw [Int.toNat_natCast]; exact hz) ?_)
      clear hS
      intro w hS
      repeat' (first | (refine pN_neq_s ?_ ?_ <;> intro hc <;> try (exfalso; first | omega | exact hc rfl | exact hc (by assumption) | exact absurd hc (by assumption))) | refine pIf_t ?_ | refine pIf_f ?_ | refine pN_via (by (intro K; simp (disch := omega) only [go_sem, pN_min, pN_max, w_u32, w_u64, Option.isNone_some, Option.isNone_none]; (try simp only [wrap_u32, wrap_u64]); rfl)) ?_ | fail)
      · rw [if_pos hc] at hd1
        refine ⟨?_, hS.to⟩
        rw [hd1]; rfl
      · rw [if_neg (by omega)] at hd1
        refine ⟨?_, hS.to⟩
        rw [hd1, Int.natCast_add]; rfl
    clear hS
    rintro _ _ w ⟨rfl, hS⟩
    repeat' (first | refine pN_via (by (intro K; simp (disch := omega) only [go_sem, pN_min, pN_max, w_u32, w_u64, Option.isNone_some, Option.isNone_none]; (try simp only [wrap_u32, wrap_u64]); rfl)) ?_ | fail)
    exact ⟨⟨i + 1, rfl, rfl, by omega, hS.to⟩, by simp [RowKit.intOf] <;> omega⟩
  · obtain rfl : i = m.length := by omega
    rw [← hpl] at hd
    repeat' (first | (refine pc_rcenc_Encoder_Bytes (Bytes_ok (hS.fd (Enc _)) (by first | omega | decide) ?_); clear hS; intro s w hS) | (refine pc_pithlaw09_alike (alike9_ok (hS.fd2 (PSet p) (PSet q)) (by omega) ?_); clear hS; intro w hS) | (refine pc_pithlaw09_fixed (fixed_ok hS ?_); clear hS; intro w hS) | ((first | refine pN_lss_s ?_ ?_ | refine pA_leq_s ?_ ?_) <;> intro hc <;> try (exfalso; omega)) | (refine pA_eql_ss ?_ ?_ <;> intro hc <;> try (exfalso; first | omega | exact hc rfl | exact hc (by assumption) | exact absurd hc (by assumption))) | refine pIf_f ?_ | refine gA_go (by rfl) ?_ | refine pGd_go (by rfl) ?_ | (refine pDr_go hS ?_; clear hS; intro w hS) | refine ⟨trivial, ?_⟩ | refine ⟨⟨(by first | exact run_l hS (by first | rfl | assumption) | exact run_st hS (by first | rfl | omega) | exact run_ld1 ha hS | exact fun _ => run_l hS (by rfl) | exact fun _ => run_st hS (by first | rfl | omega) | exact fun _ => run_ld1 ha hS | exact fun h => Bool.noConfusion h), trivial⟩, ?_⟩ | refine pL_st hS (by first | rfl | omega | simpa only [go_sem] using True.intro | (simp only [go_sem]; omega)) ?_ | refine pA_via (by (intro K; simp (disch := omega) only [go_sem, pN_min, pN_max, w_u32, w_u64, Option.isNone_some, Option.isNone_none]; (try simp only [wrap_u32, wrap_u64]); rfl)) ?_ | fail)
    exact ⟨rfl, hS.to⟩

end Go.Proofs.Ytoejaggkedlfmaa
