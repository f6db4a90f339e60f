/-
  Package tree: get; by function values.
-/
import Derived.Test.YtoejaggkedlfmaaTree
import Derived.Test.YtoejaggkedlfmaaDecQ
import Derived.Test.YtoejaggkedlfmaaTGet
namespace Go.Proofs.Ytoejaggkedlfmaa
open Go
set_option linter.unusedSimpArgs false
set_option linter.unnecessarySimpa false
set_option linter.unusedSectionVars false
set_option linter.unusedVariables false
attribute [local irreducible] oMv oV oU oCall oCallV oBi oBin oUn oLoad oStore oNil oFld oField oIdx oIndex oPick oAlloc oBox oBuild oBs oConv oMk oSl oExt oFn oIface oMap oLook oMapUp oRange oNext oAssert oPanic oRes pN pA pL pDr pIf gA pGd

theorem D.bitQ_v0 {st : D.S} {l : List Int} {i : Int} (h : (st.bitQ l i).2.2.2 ≠ 0) : (st.bitQ l i).2.2.1 = 0 := by
  unfold D.S.bitQ at *
  split
  · rename_i hn
    simp only [if_pos hn] at h
    split
    · rename_i t v e
      simp only [e] at h
      exact absurd rfl h
    · rfl
  · rfl

section
variable {E w : World} {M : List HA} {Q : Value → World → Prop} {d p : Nat}

/-- down, where each call may refuse. -/
theorem downG_ok (at_ : Int) (n : Nat) (g : Value) (z : D.A) (hz : D.AOk z) (hn : n ≤ 16) (h0 : 0 ≤ at_) (h1 : at_ ≤ 1099511627776) (Inv : D.A → List Int → World → Prop)
    (hI : Inv z [] w) (step : ∀ y l w (K : Value → World → Prop), D.AOk y → D.Same y z → R.Bits l → l.length < n → Inv y l w →
      (∀ w, (y.1.bitQ y.2 (at_ + R.nodeL l)).2.2.2 = 0 → Inv ((y.1.bitQ y.2 (at_ + R.nodeL l)).1, (y.1.bitQ y.2 (at_ + R.nodeL l)).2.1) (l ++ [(y.1.bitQ y.2 (at_ + R.nodeL l)).2.2.1]) w → K (.tuple #[.int .i64 (y.1.bitQ y.2 (at_ + R.nodeL l)).2.2.1, .int .i64 0]) w) →
      (∀ w, (y.1.bitQ y.2 (at_ + R.nodeL l)).2.2.2 ≠ 0 → Inv y l w → K (.tuple #[.int .i64 (y.1.bitQ y.2 (at_ + R.nodeL l)).2.2.1, .int .i64 (y.1.bitQ y.2 (at_ + R.nodeL l)).2.2.2]) w) →
      pN Try.prog (oCallV g [.int .i64 (at_ + R.nodeL l), .int .i64 l.length]) w K)
    (hQ : ∀ w, Inv (D.walk at_ z n).1 (D.walk at_ z n).2.1 w → Q (.int .i64 (D.walk at_ z n).2.2) w) : Calls Try.prog 109 #[.int .i64 at_, .int .i64 n, g] w (retP Q) := by
  refine tree_down.calls ?_
  unfold tree_down.F
  refine ⟨fun m v w => ∃ (y : D.A) (l : List Int), m = .int .i64 (R.nodeL l) ∧ v = .int .i64 l.length ∧ l.length ≤ n ∧ D.walk at_ z l.length = (y, l, 0) ∧ Inv y l w, fun _ v _ => n - (RowKit.intOf v).toNat, ⟨z, [], rfl, rfl, Nat.zero_le _, rfl, hI⟩, ?_⟩
  rintro _ _ _ w1 ⟨y, l, rfl, rfl, hl, hw, hI⟩
  have hok := D.walk_ok (at_ := at_) hz l.length
  rw [hw] at hok
  obtain ⟨hy, hyz, hbits, _⟩ := hok
  dsimp only at hy hyz hbits
  have hm := R.nodeL_bd hbits
  have h2 : (2 : Int) ^ (l.length + 1) ≤ 2 ^ 17 := R.two_le (by omega)
  have h3 : (0 : Int) < 2 ^ l.length := Int.pow_pos (by omega)
  have e2 : (2 : Int) ^ 17 = 131072 := by decide
  have hst := D.walk_step hw
  have hb01 := D.bitQ_v (st := y.1) (l := y.2) (i := at_ + R.nodeL l)
  by_cases hlt : l.length < n
  · repeat' (first | (refine pN_lss_s ?_ ?_ <;> intro hc <;> try (exfalso; omega)) | refine pIf_t ?_ | refine pN_via (by (intro K; simp (disch := omega) only [go_sem, pN_min, pN_max, w_u32, w_u64, Option.isNone_some, Option.isNone_none]; (try simp only [wrap_u32, wrap_u64]); rfl)) ?_ | fail)
    refine step y l _ _ hy hyz hbits hlt hI (fun w h0 hI => ?_) (fun w h0 hI => ?_)
    · rw [if_pos h0] at hst
      repeat' (first | (refine pN_neq_s ?_ ?_ <;> intro hc <;> try (exfalso; first | omega | exact hc rfl | exact hc (by assumption) | exact absurd hc (by assumption))) | refine pIf_f ?_ | refine pN_via (by (intro K; simp (disch := omega) only [go_sem, pN_min, pN_max, w_u32, w_u64, Option.isNone_some, Option.isNone_none]; (try simp only [wrap_u32, wrap_u64]); rfl)) ?_ | fail)
      refine ⟨⟨_, l ++ [(y.1.bitQ y.2 (at_ + R.nodeL l)).2.2.1], by rw [R.nodeL_snoc], by simp, by simp; omega, by rw [List.length_append]; exact hst, hI⟩, by simp [RowKit.intOf] <;> omega⟩
    · rw [if_neg h0] at hst
      have hs := D.walk_stuck (at_ := at_) (z := z) (k := l.length + 1) (by rw [hst]; exact h0) (n - (l.length + 1))
      rw [show l.length + 1 + (n - (l.length + 1)) = n from by omega, hst] at hs
      rw [hs] at hQ
      repeat' (first | (refine pN_neq_s ?_ ?_ <;> intro hc <;> try (exfalso; first | omega | exact hc rfl | exact hc (by assumption) | exact absurd hc (by assumption))) | refine pIf_t ?_ | refine pN_via (by (intro K; simp (disch := omega) only [go_sem, pN_min, pN_max, w_u32, w_u64, Option.isNone_some, Option.isNone_none]; (try simp only [wrap_u32, wrap_u64]); rfl)) ?_ | fail)
      exact hQ _ hI
  · obtain rfl : n = l.length := by omega
    rw [hw] at hQ
    repeat' (first | (refine pN_lss_s ?_ ?_ <;> intro hc <;> try (exfalso; omega)) | refine pIf_f ?_ | fail)
    exact hQ _ hI

theorem part_or {back : Bool} {n : Nat} {l : List Int} (hb : R.Bits l) (hl : l.length < n) (hn : n ≤ 16) {x : Int} (hx : x = 0 ∨ x = 1) :
    IntKind.i64.wrap (x * 2 ^ (if back then l.length else n - 1 - l.length)) = x * 2 ^ (if back then l.length else n - 1 - l.length) ∧
    IntKind.i64.wrap ((BitVec.ofInt IntKind.i64.bits (R.part back n l) ||| BitVec.ofInt IntKind.i64.bits (x * 2 ^ (if back then l.length else n - 1 - l.length))).toNat : Int) = R.part back n l + x * 2 ^ (if back then l.length else n - 1 - l.length) := by
  have e64 : (2 : Int) ^ IntKind.i64.bits = 18446744073709551616 := by decide
  have e17 : (2 : Int) ^ 17 = 131072 := by decide
  cases back
  · simp only [Bool.false_eq_true, if_false, R.part]
    have h1 := R.horner_bd hb
    have p0 : (0 : Int) < 2 ^ (n - 1 - l.length) := Int.pow_pos (by omega)
    have p1 : (2 : Int) ^ (n - 1 - l.length) ≤ 2 ^ 17 := R.two_le (by omega)
    have p2 : (2 : Int) ^ (n - l.length) = 2 ^ (n - 1 - l.length) * 2 := by rw [show n - l.length = (n - 1 - l.length) + 1 from by omega, Int.pow_succ]
    have p3 : R.horner l * 2 ^ (n - l.length) ≤ 2 ^ l.length * 2 ^ (n - l.length) := Int.mul_le_mul_of_nonneg_right (by omega) (by omega)
    have p4 : (2 : Int) ^ l.length * 2 ^ (n - l.length) = 2 ^ n := by rw [← Int.pow_add, show l.length + (n - l.length) = n from by omega]
    have p5 : (2 : Int) ^ n ≤ 2 ^ 17 := R.two_le (by omega)
    have p6 : 0 ≤ R.horner l * 2 ^ (n - l.length) := Int.mul_nonneg h1.1 (by omega)
    have hx0 : 0 ≤ x * 2 ^ (n - 1 - l.length) ∧ x * 2 ^ (n - 1 - l.length) < 2 ^ (n - l.length) := by rcases hx with rfl | rfl <;> omega
    have := or_low IntKind.i64.bits (R.horner l) (x * 2 ^ (n - 1 - l.length)) (n - l.length) h1.1 hx0.1 hx0.2 (by omega)
    exact ⟨wrap_i64 (by omega), by rw [this, wrap_i64 (by omega)]⟩
  · simp only [if_true, R.part]
    have h1 := R.backv_bd hb
    have p0 : (0 : Int) < 2 ^ l.length := Int.pow_pos (by omega)
    have p1 : (2 : Int) ^ l.length ≤ 2 ^ 17 := R.two_le (by omega)
    have hx0 : 0 ≤ x * 2 ^ l.length ∧ x * 2 ^ l.length ≤ 2 ^ l.length := by rcases hx with rfl | rfl <;> omega
    have := or_low IntKind.i64.bits x (R.backv l) l.length (by omega) h1.1 h1.2 (by omega)
    exact ⟨wrap_i64 (by omega), by rw [BitVec.or_comm, this, wrap_i64 (by omega), Int.add_comm]⟩

/-- The function that get hands down. -/
theorem get_c1_ok {c1 c2 c3 c4 c5 : Nat} {back : Bool} {n : Nat} {y : D.A} {l : List Int} (place : Int)
    (hS : Sat E w (Dec d y.1 :: PSet p y.2 :: cel c1 ⟨75, [.pointer (some ⟨d, 0, none⟩)]⟩ :: cel c2 ⟨34, [.pointer (some ⟨p, 0, none⟩)]⟩ :: cel c3 ⟨3, [.int .i64 (R.part back n l)]⟩ :: cel c4 ⟨4, [.bool back]⟩ :: cel c5 ⟨3, [.int .i64 n]⟩ :: M))
    (hy : D.AOk y) (hb : y.1.b.length ≤ 225000000000000) (hbits : R.Bits l) (hk : l.length < n) (hn : n ≤ 16)
    (hQ : ∀ w, Sat E w (Dec d (y.1.bitQ y.2 place).1 :: PSet p (y.1.bitQ y.2 place).2.1 :: cel c1 ⟨75, [.pointer (some ⟨d, 0, none⟩)]⟩ :: cel c2 ⟨34, [.pointer (some ⟨p, 0, none⟩)]⟩ ::
      cel c3 ⟨3, [.int .i64 (R.part back n l + (y.1.bitQ y.2 place).2.2.1 * 2 ^ (if back then l.length else n - 1 - l.length))]⟩ :: cel c4 ⟨4, [.bool back]⟩ :: cel c5 ⟨3, [.int .i64 n]⟩ :: M) → Q (.tuple #[.int .i64 (y.1.bitQ y.2 place).2.2.1, .int .i64 (y.1.bitQ y.2 place).2.2.2]) w) :
    Calls Try.prog 123 #[.int .i64 place, .int .i64 l.length, .pointer (some ⟨c1, 0, none⟩), .pointer (some ⟨c2, 0, none⟩), .pointer (some ⟨c3, 0, none⟩), .pointer (some ⟨c4, 0, none⟩), .pointer (some ⟨c5, 0, none⟩)] w (retP Q) := by
  refine tree_get_c1.calls ?_
  unfold tree_get_c1.F
  have hb01 := D.bitQ_v (st := y.1) (l := y.2) (i := place)
  obtain ⟨o1, o2⟩ := part_or (back := back) hbits hk hn hb01
  have hj : (if back then l.length else n - 1 - l.length) ≤ 64 := by split <;> omega
  repeat' (first | (refine pc_rcdec_Decoder_Bit (DBit_q (hS.fd2 (Dec d) (PSet p)) hy.s hy.f hb place ?_); clear hS; intro w hS) | refine pN_l hS (by first | rfl | assumption) ?_ | refine pL_l hS (by first | rfl | assumption) ?_ | (refine pDr_go hS ?_; clear hS; intro w hS) | refine pN_via (by (intro K; simp (disch := omega) only [go_sem, pN_min, pN_max, w_u32, w_u64, Option.isNone_some, Option.isNone_none]; (try simp only [wrap_u32, wrap_u64]); rfl)) ?_ | fail)
  generalize y.1.bitQ y.2 place = r at *
  repeat' (first | refine pc_tree_order (order_ok back n l.length hk hn ?_) | (refine pA_shl_k _ rfl hj ?_; rw [o1]) | rw [pA_or, o2] | (refine pN_s hS (by first | exact Nat.le_of_ble_eq_true rfl | assumption) (by rfl) ?_; clear hS; intro w hS; try simp only [List.set_cons_zero, List.set_cons_succ] at hS) | refine ⟨trivial, ?_⟩ | refine ⟨⟨(by first | exact run_l hS (by first | rfl | assumption) | exact run_st hS (by first | rfl | omega) | exact run_ld1 ha hS | exact fun _ => run_l hS (by rfl) | exact fun _ => run_st hS (by first | rfl | omega) | exact fun _ => run_ld1 ha hS | exact fun h => Bool.noConfusion h), trivial⟩, ?_⟩ | fail)
  exact hQ _ hS.to

theorem get_ok {z : D.A} (hS : Sat E w (Dec d z.1 :: PSet p z.2 :: M)) (hz : D.AOk z) (hb : z.1.b.length ≤ 225000000000000) (hl : z.2.length ≤ 1048576) (at_ n : Int) (back : Bool)
    (hQ : ∀ w, Sat E w (Dec d (D.gets z at_ n back).1.1 :: PSet p (D.gets z at_ n back).1.2 :: M) → Q (.tuple #[.int .i64 (D.gets z at_ n back).2.1, .int .i64 (D.gets z at_ n back).2.2]) w) :
    Calls Try.prog 118 #[.pointer (some ⟨d, 0, none⟩), .pointer (some ⟨p, 0, none⟩), .int .i64 at_, .int .i64 n, .bool back] w (retP Q) := by
  refine tree_get.calls ?_
  unfold tree_get.F
  refine pN_bx hS (by rfl) fun c1 w hS => ?_
  refine pN_bx hS (by rfl) fun c2 w hS => ?_
  refine pN_bx hS (by rfl) fun c5 w hS => ?_
  refine pN_bx hS (by rfl) fun c4 w hS => ?_
  by_cases ht : R.There z.2.length at_ n
  rotate_left 1
  · have t1 : decide (R.There z.2.length at_ n) = false := decide_eq_false ht
    simp only [D.gets, if_neg ht] at hQ
    repeat' (first | (refine pc_tree_there (there_ok (hS.fd (PSet p)) _ _ ?_); rw [t1]; clear hS; intro w hS) | refine pIf_t ?_ | refine pN_l hS (by first | rfl | assumption) ?_ | refine pN_via (by (intro K; simp (disch := omega) only [go_sem, pN_min, pN_max, w_u32, w_u64, Option.isNone_some, Option.isNone_none]; (try simp only [wrap_u32, wrap_u64]); rfl)) ?_ | fail)
    exact hQ _ hS.to
  have t1 : decide (R.There z.2.length at_ n) = true := decide_eq_true ht
  simp only [D.gets, if_pos ht] at hQ
  obtain ⟨n0, n1, a0, a1, a2⟩ := ht
  obtain ⟨n, rfl⟩ : ∃ m : Nat, n = m := ⟨n.toNat, by omega⟩
  rw [Int.toNat_natCast] at hQ a2
  repeat' (first | (refine pc_tree_there (there_ok (hS.fd (PSet p)) _ _ ?_); rw [t1]; clear hS; intro w hS) | (refine pN_nz hS ?_; clear hS; intro c3 w hS) | refine pIf_f ?_ | refine pN_l hS (by first | rfl | assumption) ?_ | (refine pN_s hS (by first | exact Nat.le_of_ble_eq_true rfl | assumption) (by rfl) ?_; clear hS; intro w hS; try simp only [List.set_cons_zero, List.set_cons_succ] at hS) | refine pN_fn ?_ | refine pN_via (by (intro K; simp (disch := omega) only [go_sem, pN_min, pN_max, w_u32, w_u64, Option.isNone_some, Option.isNone_none]; (try simp only [wrap_u32, wrap_u64]); rfl)) ?_ | fail)
  have hp0 : R.part back n [] = 0 := by cases back <;> simp [R.part, R.backv, R.horner]
  refine pc_tree_down (downG_ok at_ n _ z hz (by omega) a0 (by omega)
    (fun y l w => Sat E w (Dec d y.1 :: PSet p y.2 :: cel c1 ⟨75, [.pointer (some ⟨d, 0, none⟩)]⟩ :: cel c2 ⟨34, [.pointer (some ⟨p, 0, none⟩)]⟩ :: cel c3 ⟨3, [.int .i64 (R.part back n l)]⟩ :: cel c4 ⟨4, [.bool back]⟩ :: cel c5 ⟨3, [.int .i64 n]⟩ :: M)) (by rw [hp0]; exact hS.to) ?_ ?_)
  · intro y l w K hy hyz hbits hln hS h1 h2
    refine pv_tree_get_c1 (get_c1_ok (at_ + R.nodeL l) hS hy (by rw [hyz.b]; exact hb) hbits hln (by omega) fun w hS => ?_)
    rw [← R.part_snoc back hln] at hS
    by_cases h0 : (y.1.bitQ y.2 (at_ + R.nodeL l)).2.2.2 = 0
    · rw [h0]
      exact h1 w h0 hS
    · obtain ⟨e1, e2⟩ := D.bitQ_no h0
      have e3 : (y.1.bitQ y.2 (at_ + R.nodeL l)).2.2.1 = 0 := D.bitQ_v0 h0
      refine h2 w h0 ?_
      rw [e1, e2, R.part_snoc back hln, e3, Int.zero_mul, Int.add_zero] at hS
      exact hS
  · intro w hS
    have hok := D.walk_ok (at_ := at_) hz n
    by_cases h0 : (D.walk at_ z n).2.2 = 0
    · have hlen := hok.2.2.2 h0
      have hpe := R.part_end back (D.walk at_ z n).2.1
      rw [hlen] at hpe
      simp only [h0, if_true] at hQ ⊢
      rw [hpe] at hS
      repeat' (first | (refine pN_neq_s ?_ ?_ <;> intro hc <;> try (exfalso; first | omega | exact hc rfl | exact hc (by assumption) | exact absurd hc (by assumption))) | refine pIf_f ?_ | refine pN_l hS (by first | rfl | assumption) ?_ | fail)
      exact hQ _ hS.to
    · simp only [if_neg h0] at hQ
      repeat' (first | (refine pN_neq_s ?_ ?_ <;> intro hc <;> try (exfalso; first | omega | exact hc rfl | exact hc (by assumption) | exact absurd hc (by assumption))) | refine pIf_t ?_ | fail)
      exact hQ _ hS.to

theorem Get_ok {z : D.A} (hS : Sat E w (Dec d z.1 :: PSet p z.2 :: M)) (hz : D.AOk z) (hb : z.1.b.length ≤ 225000000000000) (hl : z.2.length ≤ 1048576) (at_ n : Int)
    (hQ : ∀ w, Sat E w (Dec d (D.gets z at_ n false).1.1 :: PSet p (D.gets z at_ n false).1.2 :: M) → Q (.tuple #[.int .i64 (D.gets z at_ n false).2.1, .int .i64 (D.gets z at_ n false).2.2]) w) :
    Calls Try.prog 101 #[.pointer (some ⟨d, 0, none⟩), .pointer (some ⟨p, 0, none⟩), .int .i64 at_, .int .i64 n] w (retP Q) := by
  refine tree_Get.calls ?_
  unfold tree_Get.F
  refine pc_tree_get (get_ok hS hz hb hl at_ n false fun w hS => ?_)
  repeat' (first | refine pN_via (by (intro K; simp (disch := omega) only [go_sem, pN_min, pN_max, w_u32, w_u64, Option.isNone_some, Option.isNone_none]; (try simp only [wrap_u32, wrap_u64]); rfl)) ?_ | fail)
  exact hQ w hS
theorem GetBack_ok {z : D.A} (hS : Sat E w (Dec d z.1 :: PSet p z.2 :: M)) (hz : D.AOk z) (hb : z.1.b.length ≤ 225000000000000) (hl : z.2.length ≤ 1048576) (at_ n : Int)
    (hQ : ∀ w, Sat E w (Dec d (D.gets z at_ n true).1.1 :: PSet p (D.gets z at_ n true).1.2 :: M) → Q (.tuple #[.int .i64 (D.gets z at_ n true).2.1, .int .i64 (D.gets z at_ n true).2.2]) w) :
    Calls Try.prog 103 #[.pointer (some ⟨d, 0, none⟩), .pointer (some ⟨p, 0, none⟩), .int .i64 at_, .int .i64 n] w (retP Q) := by
  refine tree_GetBack.calls ?_
  unfold tree_GetBack.F
  refine pc_tree_get (get_ok hS hz hb hl at_ n true fun w hS => ?_)
  repeat' (first | refine pN_via (by (intro K; simp (disch := omega) only [go_sem, pN_min, pN_max, w_u32, w_u64, Option.isNone_some, Option.isNone_none]; (try simp only [wrap_u32, wrap_u64]); rfl)) ?_ | fail)
  exact hQ w hS
end

end Go.Proofs.Ytoejaggkedlfmaa
