/-
  Package pithlaw08: encoded and low.
-/
import Derived.Test.YtoejaggkedlfmaaDecAns
import Derived.Test.YtoejaggkedlfmaaDecFol
namespace Go.Proofs.Ytoejaggkedlfmaa
open Go
set_option linter.unusedSimpArgs false
set_option linter.unnecessarySimpa false
set_option linter.unusedSectionVars false
set_option linter.unusedVariables false
attribute [local irreducible] oMv oV oU oCall oCallV oBi oBin oUn oLoad oStore oNil oFld oField oIdx oIndex oPick oAlloc oBox oBuild oBs oConv oMk oSl oExt oFn oIface oMap oLook oMapUp oRange oNext oAssert oPanic oRes pN pA pL pDr pIf gA pGd

namespace R
def TS.new (n : Nat) : TS := ⟨S.new, List.replicate n 1024⟩
theorem TS.new_ok (n : Nat) : (TS.new n).Ok := ⟨Ok.new, B.Fine.new n⟩
theorem TS.new_len (n : Nat) : (TS.new n).l.length = n := List.length_replicate
theorem TS.run_new {n : Nat} {qs : List T_pithlaw08_Ask} (h : ∀ q ∈ qs, may n q = true) : ((TS.new n).run qs).Ok ∧ ((TS.new n).run qs).s.k ≤ 16 * qs.length ∧ ((TS.new n).run qs).l.length = n := by
  obtain ⟨h1, h2⟩ := (TS.new_ok n).run qs (by rw [TS.new_len]; exact h)
  have e : (TS.new n).s.k = 0 := rfl
  exact ⟨h1, by omega, by rw [TS.run_len, TS.new_len]⟩
end R

/-- The first of them that may be asked. -/
def mays (n i : Nat) (qs : List T_pithlaw08_Ask) : List T_pithlaw08_Ask := (qs.take i).filter (R.may n)
theorem mays_all {n i : Nat} {qs : List T_pithlaw08_Ask} : ∀ q ∈ mays n i qs, R.may n q = true := fun q h => (List.mem_filter.1 h).2
theorem mays_len (n i : Nat) (qs : List T_pithlaw08_Ask) : (mays n i qs).length ≤ i := Nat.le_trans (List.length_filter_le _ _) (by rw [List.length_take]; omega)
theorem mays_yes {n i : Nat} {qs : List T_pithlaw08_Ask} {q : T_pithlaw08_Ask} (hq : qs[i]? = some q) (h : R.may n q = true) : mays n (i + 1) qs = mays n i qs ++ [q] := by
  rw [mays, List.take_add_one, hq, Option.toList_some, List.filter_append, mays, List.filter_cons_of_pos h]; rfl
theorem mays_not {n i : Nat} {qs : List T_pithlaw08_Ask} {q : T_pithlaw08_Ask} (hq : qs[i]? = some q) (h : ¬ R.may n q = true) : mays n (i + 1) qs = mays n i qs := by
  rw [mays, List.take_add_one, hq, Option.toList_some, List.filter_append, mays, List.filter_cons_of_neg h, List.filter_nil, List.append_nil]

section
variable {E w : World} {M : List HA} {Q : Value → World → Prop}

theorem low_ok (v n : Int) (v0 : 0 ≤ v) (v1 : v < 4294967296) (h0 : 0 ≤ n) (h1 : n ≤ 32) (hQ : Q (.int .u32 (v % 2 ^ n.toNat)) w) : Calls Try.prog 70 #[.int .u32 v, .int .i64 n] w (retP Q) := by
  refine pithlaw08_low.calls ?_
  unfold pithlaw08_low.F
  obtain ⟨n, rfl⟩ : ∃ m : Nat, n = m := ⟨n.toNat, by omega⟩
  rw [Int.toNat_natCast] at hQ
  by_cases h : n = 32
  · subst h
    rw [show v % 2 ^ 32 = v from Int.emod_eq_of_lt v0 v1] at hQ
    repeat' (first | (refine pN_geq_s ?_ ?_ <;> intro hc <;> try (exfalso; omega)) | refine pIf_t ?_ | fail)
    exact hQ
  · have p0 : (0 : Int) < 2 ^ n := Int.pow_pos (by omega)
    have p1 : (2 : Int) ^ n ≤ 2 ^ 31 := R.two_le (by omega)
    have e31 : (2 : Int) ^ 31 = 2147483648 := by decide
    have m0 := Int.emod_nonneg v (show (2 : Int) ^ n ≠ 0 by omega)
    have m1 := Int.emod_lt_of_pos v p0
    repeat' (first | (refine pN_geq_s ?_ ?_ <;> intro hc <;> try (exfalso; omega)) | refine pIf_f ?_ | fail)
    refine pN_shl_k n rfl (by show _ ≤ 32; omega) ?_
    rw [Int.one_mul, w_u32 (by omega)]
    have hsub : ∀ (xo yo : Operand) (w : World) (K : Value → World → Prop), K (.int .u32 (2 ^ n - 1)) w → pN Try.prog (oBin .sub 26 xo yo (.int .u32 (2 ^ n)) (.int .u32 1)) w K := fun xo yo w K h => by
      rw [pN_sub, w_u32 (by omega)]; exact h
    refine hsub _ _ _ _ ?_
    rw [pN_andn n _ _ rfl rfl (by show _ < 32; omega) (w_u32 (by omega))]
    exact hQ

def EnHas (E : World) (M : List HA) (e p n : Nat) (acc : List T_pithlaw08_Ask) (x : Value) (w : World) : Prop :=
  ∃ s : Sl, x = .slice s.a acc.length s.c ∧ Sat E w (rows cd_pithlaw08_Ask s acc :: Enc e ((R.TS.new n).run acc).s :: PSet p ((R.TS.new n).run acc).l :: M)

set_option maxHeartbeats 2000000 in
theorem encoded_ok (n : Nat) (hn : n ≤ 64) {sq : Sl} {qs : List T_pithlaw08_Ask} (hS : Sat E w M) [hr : Rds cd_pithlaw08_Ask M sq qs] (hl : qs.length ≤ 4398046510976) (hv : ∀ q ∈ qs, 0 ≤ q.V ∧ q.V < 4294967296)
    (hQ : ∀ sb sa p w, Sat E w (rows cd_uint8 sb ((R.TS.new n).run (qs.filter (R.may n))).s.bytes :: rows cd_pithlaw08_Ask sa (qs.filter (R.may n)) :: PSet p ((R.TS.new n).run (qs.filter (R.may n))).l :: M) →
      Q (.tuple #[.slice sb.a ((R.TS.new n).run (qs.filter (R.may n))).s.bytes.length sb.c, .slice sa.a (qs.filter (R.may n)).length sa.c, .pointer (some ⟨p, 0, none⟩)]) w) :
    Calls Try.prog 69 #[.int .i64 n, .slice sq.a qs.length sq.c] w (retP Q) := by
  refine pithlaw08_encoded.calls ?_
  unfold pithlaw08_encoded.F
  refine pc_prob_New (New_ok hS n (by omega) (by omega) fun p w hS => ?_)
  rw [Int.toNat_natCast] at hS
  repeat' (first | refine pc_pithlaw08_num (num_ok _ (by omega) ?_) | (refine pc_rcenc_New (NewE_ok hS ?_); clear hS; intro e w hS) | (refine pN_neq_s ?_ ?_ <;> intro hc <;> try (exfalso; first | omega | exact hc rfl | exact hc (by assumption) | exact absurd hc (by assumption))) | refine pIf_f ?_ | refine pGd_go (by rfl) ?_ | refine pN_via (by (intro K; simp (disch := omega) only [go_sem, pN_min, pN_max, w_u32, w_u64, Option.isNone_some, Option.isNone_none]; (try simp only [wrap_u32, wrap_u64]); rfl)) ?_ | fail)
  have hS : Sat E w (rows cd_pithlaw08_Ask ⟨none, 0⟩ [] :: Enc e R.S.new :: PSet p (List.replicate n 1024) :: M) := hS.nil 87 4
  have hall : mays n qs.length qs = qs.filter (R.may n) := by rw [mays, List.take_length]
  refine ⟨fun x v w => ∃ i : Nat, v = .int .i64 i ∧ i ≤ qs.length ∧ EnHas E M e p n (mays n i qs) x w, fun _ v _ => qs.length - (RowKit.intOf v).toNat, ⟨0, rfl, Nat.zero_le _, ⟨none, 0⟩, rfl, hS⟩, ?_⟩
  clear hS
  rintro _ _ _ w ⟨i, rfl, hi, s, rfl, hS⟩
  have hml := mays_len n i qs
  by_cases hlt : i < qs.length
  rotate_left 1
  · obtain rfl : i = qs.length := by omega
    rw [hall] at hS hml ⊢
    have hk := (R.TS.run_new (n := n) (qs := qs.filter (R.may n)) fun q h => (List.mem_filter.1 h).2).2.1
    repeat' (first | (refine pc_rcenc_Encoder_Bytes (Bytes_ok (hS.fd (Enc e)) (by omega) ?_); clear hS; intro sb w hS) | (refine pN_lss_s ?_ ?_ <;> intro hc <;> try (exfalso; omega)) | refine pIf_f ?_ | fail)
    exact hQ _ _ _ _ hS.to
  obtain ⟨q, hq⟩ : ∃ q, qs[i]? = some q := ⟨qs[i]'hlt, by simp [hlt]⟩
  obtain ⟨ho, hk, hpl⟩ := R.TS.run_new (n := n) (qs := mays n i qs) mays_all
  have hqv := hv q (List.mem_of_getElem? hq)
  have hyes := mays_yes (n := n) hq
  have hnot := mays_not (n := n) hq
  obtain ⟨dir, ai, an, av⟩ := q
  dsimp only at hqv
  repeat' (first | (refine pN_lss_s ?_ ?_ <;> intro hc <;> try (exfalso; omega)) | refine pIf_t ?_ | fail)
  refine ⟨fun x w => EnHas E M e p n (mays n (i + 1) qs) x w, ?_, ?_⟩
  rotate_left 1
  · clear hS
    rintro _ x w hS
    repeat' (first | refine pN_via (by (intro K; simp (disch := omega) only [go_sem, pN_min, pN_max, w_u32, w_u64, Option.isNone_some, Option.isNone_none]; (try simp only [wrap_u32, wrap_u64]); rfl)) ?_ | fail)
    exact ⟨⟨i + 1, rfl, by omega, hS⟩, by simp [RowKit.intOf] <;> omega⟩
  repeat' (first | refine pN_ld_at ha hS (by rfl) ?_ | (refine pN_sa hS (by rfl) (by rfl) (by rfl) ?_; clear hS; intro w hS; try dsimp only at hS) | (refine pN_nz hS ?_; clear hS; intro a w hS) | refine pN_ixk hS _ (by first | rfl | (exact (Int.toNat_of_nonneg (by omega)).symm)) (by first | rfl | omega | simpa only [go_sem] using True.intro | (simp only [go_sem]; omega)) (by assumption) fun a ha hel => ?_ | fail)
  have hS : Sat E w (cel a ⟨87, [.bool dir, .int .i64 ai, .int .i64 an, .int .u32 av]⟩ :: rows cd_pithlaw08_Ask s (mays n i qs) :: Enc e ((R.TS.new n).run (mays n i qs)).s :: PSet p ((R.TS.new n).run (mays n i qs)).l :: M) := hS
  rcases dir with _ | _
  · refine ⟨fun x w => x = .slice s.a (mays n i qs).length s.c ∧ Sat E w (cel a ⟨87, [.bool false, .int .i64 ai, .int .i64 an, .int .u32 av]⟩ :: rows cd_pithlaw08_Ask s (mays n i qs) :: Enc e ((R.TS.new n).run (mays n i qs)).s :: PSet p ((R.TS.new n).run (mays n i qs)).l :: M), ?_, ?_⟩
    · repeat' (first | refine pIf_f ?_ | refine pGd_no (by rfl) ?_ | refine pN_l hS (by first | rfl | assumption) ?_ | refine pN_via (by (intro K; simp (disch := omega) only [go_sem, pN_min, pN_max, w_u32, w_u64, Option.isNone_some, Option.isNone_none]; (try simp only [wrap_u32, wrap_u64]); rfl)) ?_ | fail)
      exact ⟨rfl, hS.to⟩
    clear hS
    rintro _ _ w ⟨rfl, hS⟩
    by_cases hm : 0 ≤ ai ∧ ai < n
    · have hyes := hyes (decide_eq_true hm)
      rw [hyes]
      obtain ⟨x, hx⟩ : ∃ x, ((R.TS.new n).run (mays n i qs)).l[ai.toNat]? = some x := ⟨((R.TS.new n).run (mays n i qs)).l[ai.toNat]'(by omega), by simp⟩
      have hxe : ((R.TS.new n).run (mays n i qs)).l.getD ai.toNat 0 = x := by rw [List.getD_eq_getElem?_getD, hx]; rfl
      have hrun : (R.TS.new n).run (mays n i qs ++ [⟨false, ai, an, av⟩]) = ⟨((R.TS.new n).run (mays n i qs)).s.cut (B.bound ((R.TS.new n).run (mays n i qs)).s.R x) (av % 2), ((R.TS.new n).run (mays n i qs)).l.set ai.toNat (B.next x (av % 2))⟩ := by
        rw [R.TS.run_snoc, ← hxe]; rfl
      unfold EnHas
      rw [hrun]
      repeat' (first | (refine pN_b1 (x := (⟨false, ai, an, av⟩ : T_pithlaw08_Ask)) hS (by rfl) (by decide) ?_; clear hS; intro s1 w hS) | refine pc_pithlaw08_num (num_ok _ (by omega) ?_) | (refine pc_rcenc_Encoder_Bit (Bit_in (hS.fd2 (Enc e) (PSet p)) ho.f (by omega) ai (av % 2) hm.1 hx ?_); clear hS; intro w hS) | ((first | refine pN_lss_s ?_ ?_ | refine pN_geq_s ?_ ?_) <;> intro hc <;> try (exfalso; omega)) | (refine pN_neq_s ?_ ?_ <;> intro hc <;> try (exfalso; first | omega | exact hc rfl | exact hc (by assumption) | exact absurd hc (by assumption))) | refine pIf_t ?_ | refine pIf_f ?_ | refine pGd_go (by rfl) ?_ | refine pN_l hS (by first | rfl | assumption) ?_ | refine pN_la hS (by rfl) ?_ | (refine pN_app hS (by first | rfl | omega | simpa only [go_sem] using True.intro | (simp only [go_sem]; omega)) (by first | rfl | omega | simpa only [go_sem] using True.intro | (simp only [go_sem]; omega)) (by first | omega | (simp only [go_sem]; omega)) ?_; clear hS; intro s w hS) | refine pN_via (by (intro K; simp (disch := omega) only [go_sem, pN_min, pN_max, w_u32, w_u64, Option.isNone_some, Option.isNone_none]; (try simp only [wrap_u32, wrap_u64]); rfl)) ?_ | fail)
      exact ⟨_, rfl, hS.to⟩
    · have hnot := hnot (fun h => hm (of_decide_eq_true h))
      rw [hnot]
      unfold EnHas
      repeat' (first | ((first | refine pN_lss_s ?_ ?_ | refine pN_geq_s ?_ ?_) <;> intro hc <;> try (exfalso; omega)) | refine pIf_f ?_ | refine pGd_go (by rfl) ?_ | refine pGd_no (by rfl) ?_ | refine pN_l hS (by first | rfl | assumption) ?_ | refine pN_via (by (intro K; simp (disch := omega) only [go_sem, pN_min, pN_max, w_u32, w_u64, Option.isNone_some, Option.isNone_none]; (try simp only [wrap_u32, wrap_u64]); rfl)) ?_ | fail)
      all_goals exact ⟨s, rfl, hS.to⟩
  · by_cases hm : 0 ≤ an ∧ an ≤ 32
    · have hyes := hyes (decide_eq_true hm)
      rw [hyes]
      refine ⟨fun x w => ∃ s : Sl, x = .slice s.a (mays n i qs ++ [(⟨true, ai, an, av⟩ : T_pithlaw08_Ask)]).length s.c ∧ Sat E w (cel a ⟨87, [.bool true, .int .i64 ai, .int .i64 an, .int .u32 av]⟩ :: rows cd_pithlaw08_Ask s (mays n i qs ++ [⟨true, ai, an, av⟩]) :: Enc e ((R.TS.new n).run (mays n i qs ++ [⟨true, ai, an, av⟩])).s :: PSet p ((R.TS.new n).run (mays n i qs ++ [⟨true, ai, an, av⟩])).l :: M), ?_, ?_⟩
      · have hrun : (R.TS.new n).run (mays n i qs ++ [⟨true, ai, an, av⟩]) = ⟨((R.TS.new n).run (mays n i qs)).s.direct av an.toNat, ((R.TS.new n).run (mays n i qs)).l⟩ := by
          rw [R.TS.run_snoc]; rfl
        rw [hrun]
        obtain ⟨an, rfl⟩ : ∃ m : Nat, an = m := ⟨an.toNat, by omega⟩
        rw [Int.toNat_natCast]
        repeat' (first | (refine pN_b1 (x := (⟨true, ai, an, av⟩ : T_pithlaw08_Ask)) hS (by rfl) (by decide) ?_; clear hS; intro s1 w hS) | refine pc_pithlaw08_num (num_ok _ (by omega) ?_) | (refine pc_rcenc_Encoder_Direct (Direct_in (hS.fd (Enc e)) (by omega) av an hqv.1 hqv.2 (by omega) ?_); clear hS; intro w hS) | ((first | refine pN_leq_s ?_ ?_ | refine pN_geq_s ?_ ?_) <;> intro hc <;> try (exfalso; omega)) | (refine pN_neq_s ?_ ?_ <;> intro hc <;> try (exfalso; first | omega | exact hc rfl | exact hc (by assumption) | exact absurd hc (by assumption))) | refine pIf_t ?_ | refine pIf_f ?_ | refine pGd_go (by rfl) ?_ | refine pN_l hS (by first | rfl | assumption) ?_ | refine pN_la hS (by rfl) ?_ | (refine pN_app hS (by first | rfl | omega | simpa only [go_sem] using True.intro | (simp only [go_sem]; omega)) (by first | rfl | omega | simpa only [go_sem] using True.intro | (simp only [go_sem]; omega)) (by first | omega | (simp only [go_sem]; omega)) ?_; clear hS; intro s w hS) | refine pN_via (by (intro K; simp (disch := omega) only [go_sem, pN_min, pN_max, w_u32, w_u64, Option.isNone_some, Option.isNone_none]; (try simp only [wrap_u32, wrap_u64]); rfl)) ?_ | fail)
        exact ⟨_, rfl, hS.to⟩
      clear hS
      rintro _ _ w ⟨s, rfl, hS⟩
      repeat' (first | refine pIf_f ?_ | refine pGd_no (by rfl) ?_ | refine pN_l hS (by first | rfl | assumption) ?_ | refine pN_via (by (intro K; simp (disch := omega) only [go_sem, pN_min, pN_max, w_u32, w_u64, Option.isNone_some, Option.isNone_none]; (try simp only [wrap_u32, wrap_u64]); rfl)) ?_ | fail)
      exact ⟨s, rfl, hS.to⟩
    · have hnot := hnot (fun h => hm (of_decide_eq_true h))
      rw [hnot]
      refine ⟨fun x w => x = .slice s.a (mays n i qs).length s.c ∧ Sat E w (cel a ⟨87, [.bool true, .int .i64 ai, .int .i64 an, .int .u32 av]⟩ :: rows cd_pithlaw08_Ask s (mays n i qs) :: Enc e ((R.TS.new n).run (mays n i qs)).s :: PSet p ((R.TS.new n).run (mays n i qs)).l :: M), ?_, ?_⟩
      · repeat' (first | ((first | refine pN_leq_s ?_ ?_ | refine pN_geq_s ?_ ?_) <;> intro hc <;> try (exfalso; omega)) | refine pIf_f ?_ | refine pGd_go (by rfl) ?_ | refine pGd_no (by rfl) ?_ | refine pN_l hS (by first | rfl | assumption) ?_ | refine pN_via (by (intro K; simp (disch := omega) only [go_sem, pN_min, pN_max, w_u32, w_u64, Option.isNone_some, Option.isNone_none]; (try simp only [wrap_u32, wrap_u64]); rfl)) ?_ | fail)
        all_goals exact ⟨rfl, hS.to⟩
      clear hS
      rintro _ _ w ⟨rfl, hS⟩
      repeat' (first | refine pIf_f ?_ | refine pGd_no (by rfl) ?_ | refine pN_l hS (by first | rfl | assumption) ?_ | refine pN_via (by (intro K; simp (disch := omega) only [go_sem, pN_min, pN_max, w_u32, w_u64, Option.isNone_some, Option.isNone_none]; (try simp only [wrap_u32, wrap_u64]); rfl)) ?_ | fail)
      exact ⟨s, rfl, hS.to⟩
end

end Go.Proofs.Ytoejaggkedlfmaa
