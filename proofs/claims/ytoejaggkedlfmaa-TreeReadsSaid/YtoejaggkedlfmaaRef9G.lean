/-
  Package pithref09: a number read.
-/
import Derived.Test.YtoejaggkedlfmaaRef9
import Derived.Test.YtoejaggkedlfmaaDecQ
import Derived.Test.YtoejaggkedlfmaaTGet
namespace Go.Proofs.Ytoejaggkedlfmaa
open Go
set_option linter.unusedSimpArgs false
set_option linter.unnecessarySimpa false
set_option linter.unusedSectionVars false
set_option linter.unusedVariables false
attribute [local irreducible] oMv oV oU oCall oCallV oBi oBin oUn oLoad oStore oNil oFld oField oIdx oIndex oPick oAlloc oBox oBuild oBs oConv oMk oSl oExt oFn oIface oMap oLook oMapUp oRange oNext oAssert oPanic oRes pN pA pL pDr pIf gA pGd

namespace R
theorem bitL_of : ∀ (m : List Int) (k : Nat), k ≤ m.length → bitL (fun j => m.getD j 0) k = m.take k
  | m, 0, _ => by simp [bitL]
  | m, k + 1, h => by
    rw [← bitL_snoc, bitL_of m k (by omega), List.take_add_one, List.getElem?_eq_getElem (show k < m.length by omega), Option.toList_some]
    simp [List.getD_eq_getElem?_getD, List.getElem?_eq_getElem (show k < m.length by omega)]
theorem node_of (m : List Int) (k : Nat) (h : k ≤ m.length) : node (fun j => m.getD j 0) k = nodeL (m.take k) := by
  rw [← bitL_of m k h]
  exact (D.nodeL_bits (fun j => m.getD j 0) (bitL fun j => m.getD j 0) (by simp [bitL]) (fun k => (bitL_snoc _ k).symm) k).symm
theorem Bits.get {m : List Int} (h : Bits m) (k : Nat) : 0 ≤ m.getD k 0 ∧ m.getD k 0 ≤ 1 := by
  rw [List.getD_eq_getElem?_getD]
  by_cases hk : k < m.length
  · rw [List.getElem?_eq_getElem hk]
    have := h m[k] (List.getElem_mem hk)
    simp only [Option.getD_some]
    omega
  · rw [List.getElem?_eq_none (by omega)]
    simp
theorem Bits.take {m : List Int} (h : Bits m) (k : Nat) : Bits (m.take k) := fun b hb => h b (List.mem_of_mem_take hb)
end R

section
variable {E w : World} {M : List HA} {Q : Value → World → Prop} {d p : Nat}

set_option maxHeartbeats 2000000 in
theorem RGet_ok {z : D.A} (hS : Sat E w (RDec d z.1 :: RSet p z.2 :: M)) (hz : D.AOk z) (hb : z.1.b.length ≤ 140737488355328) (hl : z.2.length ≤ 1048576) (at_ n : Int) (back : Bool)
    (hQ : ∀ w, Sat E w (RDec d (D.gets z at_ n back).1.1 :: RSet p (D.gets z at_ n back).1.2 :: M) → Q (.tuple #[.int .i64 (D.gets z at_ n back).2.1, .int .i64 (D.gets z at_ n back).2.2]) w) :
    Calls Try.prog 102 #[.pointer (some ⟨d, 0, none⟩), .pointer (some ⟨p, 0, none⟩), .int .i64 at_, .int .i64 n, .bool back] w (retP Q) := by
  refine pithref09_Get.calls ?_
  unfold pithref09_Get.F
  refine pc_pithref09_There (Rthere_ok (hS.fd (RSet p)) hl at_ n ?_)
  clear hS
  intro w hS
  by_cases ht : R.There z.2.length at_ n
  rotate_left 1
  · rw [decide_eq_false ht]
    simp only [D.gets, if_neg ht] at hQ
    repeat' (first | refine pIf_t ?_ | refine pN_via (by (intro K; simp (disch := omega) only [go_sem, pN_min, pN_max, w_u32, w_u64, Option.isNone_some, Option.isNone_none]; (try simp only [wrap_u32, wrap_u64]); rfl)) ?_ | fail)
    exact hQ _ hS.to
  rw [decide_eq_true ht]
  simp only [D.gets, if_pos ht] at hQ
  obtain ⟨n0, n1, a0, a1, a2⟩ := ht
  obtain ⟨n, rfl⟩ : ∃ m : Nat, n = m := ⟨n.toNat, by omega⟩
  rw [Int.toNat_natCast] at hQ a2
  repeat' (first | refine pIf_f ?_ | refine pN_via (by (intro K; simp (disch := omega) only [go_sem, pN_min, pN_max, w_u32, w_u64, Option.isNone_some, Option.isNone_none]; (try simp only [wrap_u32, wrap_u64]); rfl)) ?_ | fail)
  have hS : Sat E w (rows cd_int ⟨none, 0⟩ [] :: RDec d z.1 :: RSet p z.2 :: M) := (show Sat E w (rows cd_int ⟨none, 0⟩ [] :: RSet p z.2 :: RDec d z.1 :: M) from hS.nil 3 1).to
  refine ⟨fun x i w => ∃ (l : List Int) (y : D.A) (s : Sl), x = .slice s.a l.length s.c ∧ i = .int .i64 l.length ∧ l.length ≤ n ∧ D.walk at_ z l.length = (y, l, 0) ∧ Sat E w (rows cd_int s l :: RDec d y.1 :: RSet p y.2 :: M), fun _ i _ => n - (RowKit.intOf i).toNat, ⟨[], z, ⟨none, 0⟩, rfl, rfl, Nat.zero_le _, rfl, hS⟩, ?_⟩
  clear hS
  rintro _ _ _ w ⟨l, y, s0, rfl, rfl, hln, hw, hS⟩
  have hok := D.walk_ok (at_ := at_) hz l.length
  rw [hw] at hok
  obtain ⟨hy, hyz, hbits, _⟩ := hok
  dsimp only at hy hyz hbits
  have hst := D.walk_step hw
  have hyb : y.1.b.length ≤ 140737488355328 := by rw [hyz.b]; exact hb
  by_cases hlt : l.length < n
  · have hb2 := hbits.snoc (b := 0) (.inl rfl)
    have hm1 : (l ++ [(0 : Int)]).length = l.length + 1 := by simp
    have hbl : R.bitL (fun j => (l ++ [(0 : Int)]).getD j 0) (l.length + 1) = l ++ [0] := by rw [R.bitL_of _ _ (by omega), List.take_of_length_le (by omega)]
    have hno : R.node (fun j => (l ++ [(0 : Int)]).getD j 0) l.length = R.nodeL l := by rw [R.node_of _ _ (by omega), List.take_left' rfl]
    have hwg := R.wayL_get (at_ := at_) (bs := fun j => (l ++ [(0 : Int)]).getD j 0) (show l.length < l.length + 1 by omega)
    have hwl := R.wayL_len at_ (fun j => (l ++ [(0 : Int)]).getD j 0) (l.length + 1)
    rw [hno] at hwg
    repeat' (first | (refine pN_lss_s ?_ ?_ <;> intro hc <;> try (exfalso; omega)) | refine pIf_t ?_ | (refine pN_b1 hS (by rfl) (by decide) ?_; clear hS; intro s w hS) | (refine pN_b0 hS ?_; clear hS; intro s w hS) | (refine pN_app hS (by first | rfl | omega | simpa only [go_sem] using True.intro | (simp only [go_sem]; omega)) (by first | rfl | omega | simpa only [go_sem] using True.intro | (simp only [go_sem]; omega)) (by first | omega | (simp only [go_sem]; omega)) ?_; clear hS; intro s w hS) | fail)
    rw [List.nil_append] at *
    rw [hm1]
    have hS : Sat E w (rows cd_int s (R.bitL (fun j => (l ++ [(0 : Int)]).getD j 0) (l.length + 1)) :: rows cd_int s0 l :: RDec d y.1 :: RSet p y.2 :: M) := by rw [hbl]; exact hS.to
    refine pc_pithref09_Way (Way_ok (l.length + 1) at_ _ (fun k => hb2.get k) hS (by omega) a0 (by omega) ?_)
    clear hS
    intro t w hS
    have hb01 := D.bitQ_v (st := y.1) (l := y.2) (i := at_ + R.nodeL l)
    repeat' (first | (refine pc_pithref08_Decoder_Bit (R8Bit_q (hS.fd2 (RDec d) (RSet p)) hy.s hy.f hyb (at_ + R.nodeL l) ?_); clear hS; intro w hS) | (refine pN_neq_s ?_ ?_ <;> intro hc <;> try (exfalso; first | omega | exact hc rfl | exact hc (by assumption) | exact absurd hc (by assumption))) | refine pIf_t ?_ | refine pIf_f ?_ | refine pN_ld1 ha hS ?_ | refine pN_fa ha (by rfl) fun a ha => ?_ | refine pN_ixk hS _ (by first | rfl | (exact (Int.toNat_of_nonneg (by omega)).symm)) (by first | rfl | omega | simpa only [go_sem] using True.intro | (simp only [go_sem]; omega)) (by assumption) fun a ha hel => ?_ | (refine pN_b1 hS (by rfl) (by decide) ?_; clear hS; intro s w hS) | (refine pN_app hS (by first | rfl | omega | simpa only [go_sem] using True.intro | (simp only [go_sem]; omega)) (by first | rfl | omega | simpa only [go_sem] using True.intro | (simp only [go_sem]; omega)) (by first | omega | (simp only [go_sem]; omega)) ?_; clear hS; intro s w hS) | refine pN_via (by (intro K; simp (disch := omega) only [go_sem, pN_min, pN_max, w_u32, w_u64, Option.isNone_some, Option.isNone_none]; (try simp only [wrap_u32, wrap_u64]); rfl)) ?_ | fail)
    · rw [if_pos hc] at hst
      skip
      refine ⟨⟨l ++ [(y.1.bitQ y.2 (at_ + R.nodeL l)).2.2.1], ((y.1.bitQ y.2 (at_ + R.nodeL l)).1, (y.1.bitQ y.2 (at_ + R.nodeL l)).2.1), _, rfl, by simp, by simp; omega, by rw [List.length_append]; exact hst, hS.to⟩, by simp [RowKit.intOf] <;> omega⟩
    · rw [if_neg hc] at hst
      have hs := D.walk_stuck (at_ := at_) (z := z) (k := l.length + 1) (by rw [hst]; exact hc) (n - (l.length + 1))
      rw [show l.length + 1 + (n - (l.length + 1)) = n from by omega, hst] at hs
      rw [hs] at hQ
      simp only [if_neg hc] at hQ
      obtain ⟨e1, e2⟩ := D.bitQ_no hc
      rw [e1, e2] at hS
      exact hQ _ hS.to
  · obtain rfl : n = l.length := by omega
    rw [hw] at hQ
    simp only [if_true] at hQ
    repeat' (first | (refine pN_lss_s ?_ ?_ <;> intro hc <;> try (exfalso; omega)) | refine pIf_f ?_ | fail)
    refine ⟨fun v i w => ∃ j : Nat, v = .int .i64 (R.val back (l.take j)) ∧ i = .int .i64 j ∧ j ≤ l.length ∧ Sat E w (rows cd_int s0 l :: RDec d y.1 :: RSet p y.2 :: M), fun _ i _ => l.length - (RowKit.intOf i).toNat, ⟨0, by cases back <;> rfl, rfl, Nat.zero_le _, hS⟩, ?_⟩
    clear hS
    rintro _ _ _ w ⟨j, rfl, rfl, hj, hS⟩
    by_cases hlj : j < l.length
    · obtain ⟨x, hx⟩ : ∃ x, l[j]? = some x := ⟨l[j]'hlj, by simp⟩
      have hx01 := hbits x (List.mem_of_getElem? hx)
      have htk : l.take (j + 1) = l.take j ++ [x] := by rw [List.take_add_one, hx]; rfl
      have htl : (l.take j).length = j := by rw [List.length_take]; omega
      have hh := R.horner_bd (hbits.take j)
      have hv := R.backv_bd (hbits.take j)
      have p1 : (2 : Int) ^ (l.take j).length ≤ 2 ^ 17 := R.two_le (by omega)
      have p0 : (0 : Int) < 2 ^ j := Int.pow_pos (by omega)
      have p2 : (2 : Int) ^ j ≤ 2 ^ 17 := R.two_le (by omega)
      have e17 : (2 : Int) ^ 17 = 131072 := by decide
      repeat' (first | (refine pN_lss_s ?_ ?_ <;> intro hc <;> try (exfalso; omega)) | refine pIf_t ?_ | fail)
      refine ⟨fun v w => v = .int .i64 (R.val back (l.take (j + 1))) ∧ Sat E w (rows cd_int s0 l :: RDec d y.1 :: RSet p y.2 :: M), ?_, ?_⟩
      rotate_left 1
      · clear hS
        rintro _ _ w ⟨rfl, hS⟩
        repeat' (first | refine pN_via (by (intro K; simp (disch := omega) only [go_sem, pN_min, pN_max, w_u32, w_u64, Option.isNone_some, Option.isNone_none]; (try simp only [wrap_u32, wrap_u64]); rfl)) ?_ | fail)
        exact ⟨⟨j + 1, rfl, rfl, by omega, hS⟩, by simp [RowKit.intOf] <;> omega⟩
      rw [htk]
      unfold R.val
      cases back
      · simp only [Bool.false_eq_true, if_false, R.horner_snoc]
        repeat' (first | refine pIf_f ?_ | refine pN_ld1 ha hS ?_ | refine pN_ixk hS _ (by first | rfl | (exact (Int.toNat_of_nonneg (by omega)).symm)) (by first | rfl | omega | simpa only [go_sem] using True.intro | (simp only [go_sem]; omega)) (by assumption) fun a ha hel => ?_ | refine pN_via (by (intro K; simp (disch := omega) only [go_sem, pN_min, pN_max, w_u32, w_u64, Option.isNone_some, Option.isNone_none]; (try simp only [wrap_u32, wrap_u64]); rfl)) ?_ | fail)
        exact ⟨rfl, hS⟩
      · simp only [if_true, R.backv_snoc, htl]
        have hx0 : 0 ≤ x * 2 ^ j ∧ x * 2 ^ j ≤ 2 ^ j := by rcases hx01 with rfl | rfl <;> omega
        repeat' (first | refine pc_pithref09_two (two_ok j (by omega) ?_) | refine pIf_t ?_ | refine pL_ld1 ha hS ?_ | (refine pDr_go hS ?_; clear hS; intro w hS) | refine ⟨⟨(by first | exact run_l hS (by first | rfl | assumption) | exact run_st hS (by first | rfl | omega) | exact run_ld1 ha hS | exact fun _ => run_l hS (by rfl) | exact fun _ => run_st hS (by first | rfl | omega) | exact fun _ => run_ld1 ha hS | exact fun h => Bool.noConfusion h), trivial⟩, ?_⟩ | refine pA_ixk hS _ (by first | rfl | (exact (Int.toNat_of_nonneg (by omega)).symm)) (by first | rfl | omega | simpa only [go_sem] using True.intro | (simp only [go_sem]; omega)) (by assumption) fun a ha hel => ?_ | refine pA_via (by (intro K; simp (disch := omega) only [go_sem, pN_min, pN_max, w_u32, w_u64, Option.isNone_some, Option.isNone_none]; (try simp only [wrap_u32, wrap_u64]); rfl)) ?_ | fail)
        exact ⟨rfl, hS⟩
    · obtain rfl : j = l.length := by omega
      rw [List.take_length]
      repeat' (first | (refine pN_lss_s ?_ ?_ <;> intro hc <;> try (exfalso; omega)) | refine pIf_f ?_ | fail)
      exact hQ _ hS.to
end

end Go.Proofs.Ytoejaggkedlfmaa
