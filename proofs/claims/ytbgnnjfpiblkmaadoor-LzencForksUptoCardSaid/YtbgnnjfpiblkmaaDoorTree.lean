/-
  Package tree: put, cost; by function values.
-/
import Derived.Test.YtbgnnjfpiblkmaaDoorLfTree
import Derived.Test.YtbgnnjfpiblkmaaDoorRcenc
import Derived.Test.YtbgnnjfpiblkmaaDoorTPure
namespace Go.Proofs.YtbgnnjfpiblkmaaDoor
open Go
set_option linter.unusedSimpArgs false
set_option linter.unnecessarySimpa false
set_option linter.unusedSectionVars false
set_option linter.unusedVariables false
attribute [local irreducible] oMv oV oU oCall oCallV oBi oBin oUn oLoad oStore oNil oFld oField oIdx oIndex oPick oAlloc oBox oBuild oBs oConv oMk oSl oExt oFn oIface oMap oLook oMapUp oRange oNext oEntry oInv oAssert oPanic oRes pN pA pL pDr pIf gA pGd

section
variable {E w : World} {M : List HA} {Q : Value → World → Prop} {b p : Nat} {s : R.S} {l : List Int}

theorem order_ok (back : Bool) (n k : Nat) (hk : k < n) (hn : n ≤ 16) (hQ : Q (.int .i64 (if back then k else n - 1 - k : Nat)) w) : Calls Tryd.prog 92 #[.bool back, .int .i64 n, .int .i64 k] w (retP Q) := by
  refine tree_order.calls ?_
  unfold tree_order.F
  cases back
  · repeat' (first | refine pIf_f ?_ | refine pN_via (by (intro K; simp (disch := omega) only [go_sem, pN_min, pN_max, w_u32, w_u64, Option.isNone_some, Option.isNone_none]; (try simp only [wrap_u32, wrap_u64]); rfl)) ?_ | fail)
    have e : (n : Int) - 1 - k = ((n - 1 - k : Nat) : Int) := by omega
    rw [e]; exact hQ
  · repeat' (first | refine pIf_t ?_ | fail)
    exact hQ

theorem there_ok (hS : Sat E w (PSet p l :: M)) (at_ n : Int) (hQ : ∀ w, Sat E w (PSet p l :: M) → Q (.bool (decide (R.There l.length at_ n))) w) : Calls Tryd.prog 88 #[.pointer (some ⟨p, 0, none⟩), .int .i64 at_, .int .i64 n] w (retP Q) := by
  refine tree_there.calls ?_
  unfold tree_there.F
  obtain ⟨sl, hS'⟩ := PSet.opn hS
  have hlen := rows_len (C := cd_int) sl hS'
  have shl : ∀ (w : World) (J : Value → Prop), 0 ≤ n → n ≤ 16 → J (.int .i64 (2 ^ n.toNat)) → pA Tryd.prog (oBin .shl 3 (.const (.int .i64 1)) (.tmp 24) (.int .i64 1) (.int .i64 n)) J := by
    intro w J h0 h1 h
    refine pA_shl_k n.toNat (Int.toNat_of_nonneg h0).symm (by show _ ≤ 64; omega) ?_
    have e : (1 : Int) * 2 ^ n.toNat = 2 ^ n.toNat := Int.one_mul _
    have h2 : (2 : Int) ^ n.toNat ≤ 2 ^ 16 := R.two_le (by omega)
    have h3 : (0 : Int) < 2 ^ n.toNat := Int.pow_pos (by omega)
    have e2 : (2 : Int) ^ 16 = 65536 := by decide
    rw [e, wrap_i64 (by omega)]
    exact h
  have fin : ∀ w b, (b = true ↔ R.There l.length at_ n) → Sat E w (PSet p l :: M) → Q (.bool b) w := by
    intro w b hb hS
    have := hQ w hS
    by_cases h : R.There l.length at_ n
    · rw [decide_eq_true h] at this
      rw [hb.2 h]; exact this
    · rw [decide_eq_false h] at this
      have : b = false := by
        cases b
        · rfl
        · exact absurd (hb.1 rfl) h
      rw [this]; assumption
  repeat' (first | (refine pc_prob_Set_Len (Len_ok (hS.fd (PSet p)) ?_); clear hS; intro w hS) | refine shl w _ (by omega) (by omega) ?_ | ((first | refine pA_leq_s ?_ ?_ | refine pA_geq_s ?_ ?_) <;> intro hc <;> try (exfalso; omega)) | refine gA_go (by rfl) ?_ | refine gA_no (by rfl) ?_ | refine pGd_go (by rfl) ?_ | refine pGd_no (by rfl) ?_ | (refine pDr_go hS ?_; clear hS; intro w hS) | refine ⟨trivial, ?_⟩ | refine pA_via (by (intro K; simp (disch := omega) only [go_sem, pN_min, pN_max, w_u32, w_u64, Option.isNone_some, Option.isNone_none]; (try simp only [wrap_u32, wrap_u64]); rfl)) ?_ | fail)
  all_goals
    refine fin _ _ ?_ hS
    unfold R.There
    first
      | (refine ⟨fun _ => (by omega), fun _ => rfl⟩)
      | (refine ⟨fun h => (by cases h), fun h => (by omega)⟩)

theorem holds_ok (v n : Int) (h0 : 0 ≤ n) (h1 : n ≤ 16) (hQ : Q (.bool (decide (R.Holds v n))) w) : Calls Tryd.prog 89 #[.int .i64 v, .int .i64 n] w (retP Q) := by
  refine tree_holds.calls ?_
  unfold tree_holds.F
  have shl : ∀ (w : World) (K : Value → World → Prop), K (.int .i64 (2 ^ n.toNat)) w → pN Tryd.prog (oBin .shl 3 (.const (.int .i64 1)) (.tmp 9) (.int .i64 1) (.int .i64 n)) w K := by
    intro w K h
    refine pN_shl_k n.toNat (Int.toNat_of_nonneg h0).symm (by show _ ≤ 64; omega) ?_
    have e : (1 : Int) * 2 ^ n.toNat = 2 ^ n.toNat := Int.one_mul _
    have h2 : (2 : Int) ^ n.toNat ≤ 2 ^ 16 := R.two_le (by omega)
    have h3 : (0 : Int) < 2 ^ n.toNat := Int.pow_pos (by omega)
    have e2 : (2 : Int) ^ 16 = 65536 := by decide
    rw [e, wrap_i64 (by omega)]
    exact h
  have fin : ∀ b, (b = true ↔ R.Holds v n) → Q (.bool b) w := by
    intro b hb
    by_cases h : R.Holds v n
    · rw [decide_eq_true h] at hQ
      rw [hb.2 h]; exact hQ
    · rw [decide_eq_false h] at hQ
      have : b = false := by
        cases b
        · rfl
        · exact absurd (hb.1 rfl) h
      rw [this]; exact hQ
  repeat' (first | refine shl w _ ?_ | ((first | refine pN_lss_s ?_ ?_ | refine pN_geq_s ?_ ?_) <;> intro hc <;> try (exfalso; omega)) | refine pGd_go (by rfl) ?_ | refine pGd_no (by rfl) ?_ | refine pN_via (by (intro K; simp (disch := omega) only [go_sem, pN_min, pN_max, w_u32, w_u64, Option.isNone_some, Option.isNone_none]; (try simp only [wrap_u32, wrap_u64]); rfl)) ?_ | fail)
  all_goals
    refine fin _ ?_
    unfold R.Holds
    first
      | (refine ⟨fun _ => (by omega), fun _ => rfl⟩)
      | (refine ⟨fun h => (by cases h), fun h => (by omega)⟩)

/-- down, by what each call of the function keeps: the first k bits have been told. -/
theorem down_ok (at_ : Int) (n : Nat) (g : Value) (bs : Nat → Int) (hb : ∀ k, 0 ≤ bs k ∧ bs k ≤ 1) (hn : n ≤ 16) (h0 : 0 ≤ at_) (h1 : at_ ≤ 1099511627776) (Inv : Nat → World → Prop)
    (hI : Inv 0 w) (step : ∀ k w (K : Value → World → Prop), k < n → Inv k w → (∀ w, Inv (k + 1) w → K (.tuple #[.int .i64 (bs k), .int .i64 0]) w) → pN Tryd.prog (oCallV g [.int .i64 (at_ + R.node bs k), .int .i64 k]) w K)
    (hQ : ∀ w, Inv n w → Q (.int .i64 0) w) : Calls Tryd.prog 90 #[.int .i64 at_, .int .i64 n, g] w (retP Q) := by
  refine tree_down.calls ?_
  unfold tree_down.F
  refine ⟨fun m v w => ∃ k : Nat, m = .int .i64 (R.node bs k) ∧ v = .int .i64 k ∧ k ≤ n ∧ Inv k w, fun _ v _ => n - (RowKit.intOf v).toNat, ⟨0, rfl, rfl, Nat.zero_le _, hI⟩, ?_⟩
  rintro _ _ _ w1 ⟨k, rfl, rfl, hk, hI⟩
  have hm := R.node_lo hb k
  have h2 : (2 : Int) ^ (k + 1) ≤ 2 ^ 17 := R.two_le (by omega)
  have h3 : (0 : Int) < 2 ^ k := Int.pow_pos (by omega)
  have e2 : (2 : Int) ^ 17 = 131072 := by decide
  have hbk := hb k
  repeat' (first | (refine pN_lss_s ?_ ?_ <;> intro hc <;> try (exfalso; omega)) | refine pIf_t ?_ | refine pIf_f ?_ | refine pN_via (by (intro K; simp (disch := omega) only [go_sem, pN_min, pN_max, w_u32, w_u64, Option.isNone_some, Option.isNone_none]; (try simp only [wrap_u32, wrap_u64]); rfl)) ?_ | fail)
  · refine step k _ _ (by omega) hI fun w hI => ?_
    repeat' (first | (refine pN_neq_s ?_ ?_ <;> intro hc <;> try (exfalso; first | omega | exact hc rfl | exact hc (by assumption) | exact absurd hc (by assumption))) | refine pIf_f ?_ | refine pN_via (by (intro K; simp (disch := omega) only [go_sem, pN_min, pN_max, w_u32, w_u64, Option.isNone_some, Option.isNone_none]; (try simp only [wrap_u32, wrap_u64]); rfl)) ?_ | fail)
    exact ⟨⟨k + 1, rfl, rfl, by omega, hI⟩, by simp [RowKit.intOf] <;> omega⟩
  · obtain rfl : k = n := by omega
    exact hQ _ hI

/-- The function that put hands down. -/
theorem put_c1_ok {c1 c2 c3 c4 c5 : Nat} {v : Int} {back : Bool} {n k : Nat} (place : Int)
    (hS : Sat E w (Enc b s :: PSet p l :: cel c1 ⟨3, [.int .i64 v]⟩ :: cel c2 ⟨4, [.bool back]⟩ :: cel c3 ⟨3, [.int .i64 n]⟩ :: cel c4 ⟨51, [.pointer (some ⟨b, 0, none⟩)]⟩ :: cel c5 ⟨63, [.pointer (some ⟨p, 0, none⟩)]⟩ :: M))
    (hf : B.Fine l) (hs : s.k + 10 ≤ 140737488355328) (hk : k < n) (hn : n ≤ 16) (p0 : 0 ≤ place) (p1 : place < l.length)
    (hQ : ∀ w, Sat E w (Enc b (R.TS.bit ⟨s, l⟩ place (R.bitAt back n v k)).s :: PSet p (R.TS.bit ⟨s, l⟩ place (R.bitAt back n v k)).l :: cel c1 ⟨3, [.int .i64 v]⟩ :: cel c2 ⟨4, [.bool back]⟩ :: cel c3 ⟨3, [.int .i64 n]⟩ :: cel c4 ⟨51, [.pointer (some ⟨b, 0, none⟩)]⟩ :: cel c5 ⟨63, [.pointer (some ⟨p, 0, none⟩)]⟩ :: M) → Q (.tuple #[.int .i64 (R.bitAt back n v k), .int .i64 0]) w) :
    Calls Tryd.prog 91 #[.int .i64 place, .int .i64 k, .pointer (some ⟨c1, 0, none⟩), .pointer (some ⟨c2, 0, none⟩), .pointer (some ⟨c3, 0, none⟩), .pointer (some ⟨c4, 0, none⟩), .pointer (some ⟨c5, 0, none⟩)] w (retP Q) := by
  simp only [R.TS.bit, R.bitAt] at hQ
  refine tree_put_c1.calls ?_
  unfold tree_put_c1.F
  have hx : l[place.toNat]? = some (l.getD place.toNat 0) := by
    rw [List.getD_eq_getElem?_getD, List.getElem?_eq_getElem (show place.toNat < l.length by omega)]; rfl
  have hj : (if back then k else n - 1 - k) ≤ 64 := by split <;> omega
  repeat' (first | refine pc_tree_order (order_ok back n k hk hn ?_) | refine pA_shr_k _ rfl hj ?_ | (refine pc_rcenc_Encoder_Bit (Bit_in (hS.fd2 (Enc b) (PSet p)) hf hs _ _ p0 hx ?_); clear hS; intro w hS) | refine pN_l hS (by first | rfl | assumption) ?_ | refine pL_l hS (by first | rfl | assumption) ?_ | (refine pDr_go hS ?_; clear hS; intro w hS) | refine ⟨⟨(by first | exact run_l hS (by first | rfl | assumption) | exact run_st hS (by first | rfl | omega) | exact run_ld1 ha hS | exact fun _ => run_l hS (by rfl) | exact fun _ => run_st hS (by first | rfl | omega) | exact fun _ => run_ld1 ha hS | exact fun h => Bool.noConfusion h), trivial⟩, ?_⟩ | refine pA_via (by (intro K; simp (disch := omega) only [go_sem, pN_min, pN_max, w_u32, w_u64, Option.isNone_some, Option.isNone_none]; (try simp only [wrap_u32, wrap_u64]); rfl)) ?_ | fail)
  exact hQ _ hS.to

theorem put_ok (hS : Sat E w (Enc b s :: PSet p l :: M)) (ho : R.Ok s) (hf : B.Fine l) (hs : s.k + 100 ≤ 140737488355328) (at_ n v : Int) (back : Bool) (hl : l.length ≤ 1048576)
    (hQ : ∀ w, Sat E w (Enc b (if R.There l.length at_ n ∧ R.Holds v n then R.TS.put ⟨s, l⟩ at_ (R.bitAt back n.toNat v) n.toNat else ⟨s, l⟩).s :: PSet p (if R.There l.length at_ n ∧ R.Holds v n then R.TS.put ⟨s, l⟩ at_ (R.bitAt back n.toNat v) n.toNat else ⟨s, l⟩).l :: M) →
      Q (.int .i64 (if R.There l.length at_ n ∧ R.Holds v n then 0 else 7)) w) :
    Calls Tryd.prog 83 #[.pointer (some ⟨b, 0, none⟩), .pointer (some ⟨p, 0, none⟩), .int .i64 at_, .int .i64 n, .int .i64 v, .bool back] w (retP Q) := by
  refine tree_put.calls ?_
  unfold tree_put.F
  by_cases ht : R.There l.length at_ n
  · by_cases hh : R.Holds v n
    · have hc : R.There l.length at_ n ∧ R.Holds v n := ⟨ht, hh⟩
      simp only [if_pos hc] at hQ
      have ht' := ht
      obtain ⟨n0, n1, a0, a1, a2⟩ := ht'
      refine pN_bx hS (by rfl) fun c4 w hS => ?_
      refine pN_bx hS (by rfl) fun c5 w hS => ?_
      refine pN_bx hS (by rfl) fun c3 w hS => ?_
      refine pN_bx hS (by rfl) fun c1 w hS => ?_
      refine pN_bx hS (by rfl) fun c2 w hS => ?_
      have t1 : decide (R.There l.length at_ n) = true := decide_eq_true ht
      have t2 : decide (R.Holds v n) = true := decide_eq_true hh
      repeat' (first | (refine pc_tree_there (there_ok (hS.fd (PSet p)) _ _ ?_); rw [t1]; clear hS; intro w hS) | (refine pc_tree_holds (holds_ok _ _ n0 n1 ?_); rw [t2]) | refine pIf_f ?_ | refine pGd_go (by rfl) ?_ | refine pN_l hS (by first | rfl | assumption) ?_ | refine pN_fn ?_ | refine pN_via (by (intro K; simp (disch := omega) only [go_sem, pN_min, pN_max, w_u32, w_u64, Option.isNone_some, Option.isNone_none]; (try simp only [wrap_u32, wrap_u64]); rfl)) ?_ | fail)
      obtain ⟨m, rfl⟩ : ∃ m : Nat, n = m := ⟨n.toNat, by omega⟩
      rw [Int.toNat_natCast] at hQ
      have hb := R.bitAt_01 back m v
      have oa : R.TS.Ok ⟨s, l⟩ := ⟨ho, hf⟩
      refine pc_tree_down (down_ok at_ m _ (R.bitAt back m v) hb (by omega) a0 (by omega)
        (fun k w => Sat E w (Enc b (R.TS.put ⟨s, l⟩ at_ (R.bitAt back m v) k).s :: PSet p (R.TS.put ⟨s, l⟩ at_ (R.bitAt back m v) k).l :: cel c1 ⟨3, [.int .i64 v]⟩ :: cel c2 ⟨4, [.bool back]⟩ :: cel c3 ⟨3, [.int .i64 m]⟩ :: cel c4 ⟨51, [.pointer (some ⟨b, 0, none⟩)]⟩ :: cel c5 ⟨63, [.pointer (some ⟨p, 0, none⟩)]⟩ :: M)) (by simp only [R.TS.put, R.costs]; exact hS.to) ?_ ?_)
      · intro k w K hk hS hK
        have ⟨o1, o2⟩ := oa.put ht hb k (by rw [Int.toNat_natCast]; omega)
        have hp := ht.place hb (k := k) (by rw [Int.toNat_natCast]; omega)
        have hlen := R.TS.put_len ⟨s, l⟩ at_ (R.bitAt back m v) k
        simp only at o2 hlen
        refine pv_tree_put_c1 (put_c1_ok _ hS o1.f (by omega) hk (by omega) hp.1 (by omega) fun w hS => hK w hS)
      · intro w hS
        skip
        exact hQ _ hS.to
    · have hc : ¬ (R.There l.length at_ n ∧ R.Holds v n) := fun h => hh h.2
      simp only [if_neg hc] at hQ
      have ht' := ht
      obtain ⟨n0, n1, a0, a1, a2⟩ := ht'
      have t1 : decide (R.There l.length at_ n) = true := decide_eq_true ht
      have t2 : decide (R.Holds v n) = false := decide_eq_false hh
      repeat' (first | (refine pc_tree_there (there_ok (hS.fd (PSet p)) _ _ ?_); rw [t1]; clear hS; intro w hS) | (refine pc_tree_holds (holds_ok _ _ n0 n1 ?_); rw [t2]) | refine pIf_t ?_ | refine pGd_go (by rfl) ?_ | refine pN_l hS (by first | rfl | assumption) ?_ | (refine pN_bx hS (by rfl) ?_; clear hS; intro a w hS) | refine pN_via (by (intro K; simp (disch := omega) only [go_sem, pN_min, pN_max, w_u32, w_u64, Option.isNone_some, Option.isNone_none]; (try simp only [wrap_u32, wrap_u64]); rfl)) ?_ | fail)
      exact hQ _ hS.to
  · have hc : ¬ (R.There l.length at_ n ∧ R.Holds v n) := fun h => ht h.1
    simp only [if_neg hc] at hQ
    have t1 : decide (R.There l.length at_ n) = false := decide_eq_false ht
    repeat' (first | (refine pc_tree_there (there_ok (hS.fd (PSet p)) _ _ ?_); rw [t1]; clear hS; intro w hS) | refine pIf_t ?_ | refine pGd_no (by rfl) ?_ | refine pN_l hS (by first | rfl | assumption) ?_ | (refine pN_bx hS (by rfl) ?_; clear hS; intro a w hS) | refine pN_via (by (intro K; simp (disch := omega) only [go_sem, pN_min, pN_max, w_u32, w_u64, Option.isNone_some, Option.isNone_none]; (try simp only [wrap_u32, wrap_u64]); rfl)) ?_ | fail)
    exact hQ _ hS.to

/-- The function that cost hands down. -/
theorem cost_c1_ok {c1 c2 c3 c4 c5 : Nat} {v sum : Int} {back : Bool} {n k : Nat} (place : Int)
    (hS : Sat E w (PSet p l :: cel c5 ⟨3, [.int .i64 sum]⟩ :: cel c1 ⟨3, [.int .i64 v]⟩ :: cel c2 ⟨4, [.bool back]⟩ :: cel c3 ⟨3, [.int .i64 n]⟩ :: cel c4 ⟨63, [.pointer (some ⟨p, 0, none⟩)]⟩ :: M))
    (hk : k < n) (hn : n ≤ 16) (p0 : 0 ≤ place) (p1 : place < l.length) (s0 : -1000000 ≤ sum) (s1 : sum ≤ 1000000)
    (hQ : ∀ w, Sat E w (PSet p l :: cel c5 ⟨3, [.int .i64 (sum + B.cost (l.getD place.toNat 0) (R.bitAt back n v k))]⟩ :: cel c1 ⟨3, [.int .i64 v]⟩ :: cel c2 ⟨4, [.bool back]⟩ :: cel c3 ⟨3, [.int .i64 n]⟩ :: cel c4 ⟨63, [.pointer (some ⟨p, 0, none⟩)]⟩ :: M) → Q (.tuple #[.int .i64 (R.bitAt back n v k), .int .i64 0]) w) :
    Calls Tryd.prog 106 #[.int .i64 place, .int .i64 k, .pointer (some ⟨c1, 0, none⟩), .pointer (some ⟨c2, 0, none⟩), .pointer (some ⟨c3, 0, none⟩), .pointer (some ⟨c4, 0, none⟩), .pointer (some ⟨c5, 0, none⟩)] w (retP Q) := by
  simp only [R.bitAt] at hQ
  refine tree_cost_c1.calls ?_
  unfold tree_cost_c1.F
  have hx : l[place.toNat]? = some (l.getD place.toNat 0) := by
    rw [List.getD_eq_getElem?_getD, List.getElem?_eq_getElem (show place.toNat < l.length by omega)]; rfl
  have hj : (if back then k else n - 1 - k) ≤ 64 := by split <;> omega
  have hc := B.cost_small (l.getD place.toNat 0) (v / 2 ^ (if back then k else n - 1 - k) % 2)
  repeat' (first | refine pc_tree_order (order_ok back n k hk hn ?_) | refine pA_shr_k _ rfl hj ?_ | (refine pc_prob_Set_At (At_in (hS.fd (PSet p)) _ p0 hx ?_); clear hS; intro w hS) | refine pc_prob_Cost (Cost_ok _ _ ?_) | refine pN_l hS (by first | rfl | assumption) ?_ | refine pL_l hS (by first | rfl | assumption) ?_ | (refine pN_s hS (by first | exact Nat.le_of_ble_eq_true rfl | assumption) (by rfl) ?_; clear hS; intro w hS; try simp only [List.set_cons_zero, List.set_cons_succ] at hS) | (refine pDr_go hS ?_; clear hS; intro w hS) | refine ⟨trivial, ?_⟩ | refine ⟨⟨(by first | exact run_l hS (by first | rfl | assumption) | exact run_st hS (by first | rfl | omega) | exact run_ld1 ha hS | exact fun _ => run_l hS (by rfl) | exact fun _ => run_st hS (by first | rfl | omega) | exact fun _ => run_ld1 ha hS | exact fun h => Bool.noConfusion h), trivial⟩, ?_⟩ | refine pN_via (by (intro K; simp (disch := omega) only [go_sem, pN_min, pN_max, w_u32, w_u64, Option.isNone_some, Option.isNone_none]; (try simp only [wrap_u32, wrap_u64]); rfl)) ?_ | refine pA_via (by (intro K; simp (disch := omega) only [go_sem, pN_min, pN_max, w_u32, w_u64, Option.isNone_some, Option.isNone_none]; (try simp only [wrap_u32, wrap_u64]); rfl)) ?_ | fail)
  exact hQ _ hS.to

theorem cost_ok (hS : Sat E w (PSet p l :: M)) (at_ n v : Int) (back : Bool) (hl : l.length ≤ 1048576)
    (hQ : ∀ w, Sat E w (PSet p l :: M) → Q (.tuple #[.int .i64 (if R.There l.length at_ n ∧ R.Holds v n then R.costs l at_ (R.bitAt back n.toNat v) n.toNat else 0), .int .i64 (if R.There l.length at_ n ∧ R.Holds v n then 0 else 7)]) w) :
    Calls Tryd.prog 104 #[.pointer (some ⟨p, 0, none⟩), .int .i64 at_, .int .i64 n, .int .i64 v, .bool back] w (retP Q) := by
  refine tree_cost.calls ?_
  unfold tree_cost.F
  by_cases ht : R.There l.length at_ n
  · by_cases hh : R.Holds v n
    · have hc : R.There l.length at_ n ∧ R.Holds v n := ⟨ht, hh⟩
      simp only [if_pos hc] at hQ
      have ht' := ht
      obtain ⟨n0, n1, a0, a1, a2⟩ := ht'
      refine pN_bx hS (by rfl) fun c4 w hS => ?_
      refine pN_bx hS (by rfl) fun c3 w hS => ?_
      refine pN_bx hS (by rfl) fun c1 w hS => ?_
      refine pN_bx hS (by rfl) fun c2 w hS => ?_
      have t1 : decide (R.There l.length at_ n) = true := decide_eq_true ht
      have t2 : decide (R.Holds v n) = true := decide_eq_true hh
      repeat' (first | (refine pc_tree_there (there_ok (hS.fd (PSet p)) _ _ ?_); rw [t1]; clear hS; intro w hS) | (refine pc_tree_holds (holds_ok _ _ n0 n1 ?_); rw [t2]) | (refine pN_nz hS ?_; clear hS; intro c5 w hS) | refine pIf_f ?_ | refine pGd_go (by rfl) ?_ | refine pN_l hS (by first | rfl | assumption) ?_ | (refine pN_s hS (by first | exact Nat.le_of_ble_eq_true rfl | assumption) (by rfl) ?_; clear hS; intro w hS; try simp only [List.set_cons_zero, List.set_cons_succ] at hS) | refine pN_fn ?_ | refine pN_via (by (intro K; simp (disch := omega) only [go_sem, pN_min, pN_max, w_u32, w_u64, Option.isNone_some, Option.isNone_none]; (try simp only [wrap_u32, wrap_u64]); rfl)) ?_ | fail)
      obtain ⟨m, rfl⟩ : ∃ m : Nat, n = m := ⟨n.toNat, by omega⟩
      rw [Int.toNat_natCast] at hQ
      have hb := R.bitAt_01 back m v
      refine pc_tree_down (down_ok at_ m _ (R.bitAt back m v) hb (by omega) a0 (by omega)
        (fun k w => Sat E w (PSet p l :: cel c5 ⟨3, [.int .i64 (R.costs l at_ (R.bitAt back m v) k)]⟩ :: cel c1 ⟨3, [.int .i64 v]⟩ :: cel c2 ⟨4, [.bool back]⟩ :: cel c3 ⟨3, [.int .i64 m]⟩ :: cel c4 ⟨63, [.pointer (some ⟨p, 0, none⟩)]⟩ :: M)) (by simp only [R.TS.put, R.costs]; exact hS.to) ?_ ?_)
      · intro k w K hk hS hK
        have hp := ht.place hb (k := k) (by rw [Int.toNat_natCast]; omega)
        have hs := R.costs_small l at_ (R.bitAt back m v) k
        refine pv_tree_cost_c1 (cost_c1_ok _ hS hk (by omega) hp.1 (by omega) (by omega) (by omega) fun w hS => hK w hS)
      · intro w hS
        repeat' (first | refine pN_l hS (by first | rfl | assumption) ?_ | fail)
        exact hQ _ hS.to
    · have hc : ¬ (R.There l.length at_ n ∧ R.Holds v n) := fun h => hh h.2
      simp only [if_neg hc] at hQ
      have ht' := ht
      obtain ⟨n0, n1, a0, a1, a2⟩ := ht'
      have t1 : decide (R.There l.length at_ n) = true := decide_eq_true ht
      have t2 : decide (R.Holds v n) = false := decide_eq_false hh
      repeat' (first | (refine pc_tree_there (there_ok (hS.fd (PSet p)) _ _ ?_); rw [t1]; clear hS; intro w hS) | (refine pc_tree_holds (holds_ok _ _ n0 n1 ?_); rw [t2]) | refine pIf_t ?_ | refine pGd_go (by rfl) ?_ | refine pN_l hS (by first | rfl | assumption) ?_ | (refine pN_bx hS (by rfl) ?_; clear hS; intro a w hS) | refine pN_via (by (intro K; simp (disch := omega) only [go_sem, pN_min, pN_max, w_u32, w_u64, Option.isNone_some, Option.isNone_none]; (try simp only [wrap_u32, wrap_u64]); rfl)) ?_ | fail)
      exact hQ _ hS.to
  · have hc : ¬ (R.There l.length at_ n ∧ R.Holds v n) := fun h => ht h.1
    simp only [if_neg hc] at hQ
    have t1 : decide (R.There l.length at_ n) = false := decide_eq_false ht
    repeat' (first | (refine pc_tree_there (there_ok (hS.fd (PSet p)) _ _ ?_); rw [t1]; clear hS; intro w hS) | refine pIf_t ?_ | refine pGd_no (by rfl) ?_ | refine pN_l hS (by first | rfl | assumption) ?_ | (refine pN_bx hS (by rfl) ?_; clear hS; intro a w hS) | refine pN_via (by (intro K; simp (disch := omega) only [go_sem, pN_min, pN_max, w_u32, w_u64, Option.isNone_some, Option.isNone_none]; (try simp only [wrap_u32, wrap_u64]); rfl)) ?_ | fail)
    exact hQ _ hS.to

theorem Put_ok (hS : Sat E w (Enc b s :: PSet p l :: M)) (ho : R.Ok s) (hf : B.Fine l) (hs : s.k + 100 ≤ 140737488355328) (at_ n v : Int) (hl : l.length ≤ 1048576)
    (hQ : ∀ w, Sat E w (Enc b (if R.There l.length at_ n ∧ R.Holds v n then R.TS.put ⟨s, l⟩ at_ (R.bitAt false n.toNat v) n.toNat else ⟨s, l⟩).s :: PSet p (if R.There l.length at_ n ∧ R.Holds v n then R.TS.put ⟨s, l⟩ at_ (R.bitAt false n.toNat v) n.toNat else ⟨s, l⟩).l :: M) →
      Q (.int .i64 (if R.There l.length at_ n ∧ R.Holds v n then 0 else 7)) w) :
    Calls Tryd.prog 82 #[.pointer (some ⟨b, 0, none⟩), .pointer (some ⟨p, 0, none⟩), .int .i64 at_, .int .i64 n, .int .i64 v] w (retP Q) := by
  refine tree_Put.calls ?_
  unfold tree_Put.F
  refine pc_tree_put (put_ok hS ho hf hs at_ n v false hl fun w hS => ?_)
  exact hQ w hS
theorem Put_in (hS : Sat E w (Enc b s :: PSet p l :: M)) (ho : R.Ok s) (hf : B.Fine l) (hs : s.k + 100 ≤ 140737488355328) (at_ n v : Int) (hl : l.length ≤ 1048576) (ht : R.There l.length at_ n) (hh : R.Holds v n)
    (hQ : ∀ w, Sat E w (Enc b (R.TS.put ⟨s, l⟩ at_ (R.bitAt false n.toNat v) n.toNat).s :: PSet p (R.TS.put ⟨s, l⟩ at_ (R.bitAt false n.toNat v) n.toNat).l :: M) → Q (.int .i64 0) w) :
    Calls Tryd.prog 82 #[.pointer (some ⟨b, 0, none⟩), .pointer (some ⟨p, 0, none⟩), .int .i64 at_, .int .i64 n, .int .i64 v] w (retP Q) := by
  refine Put_ok hS ho hf hs at_ n v hl fun w hS => ?_
  rw [if_pos ⟨ht, hh⟩] at hS ⊢
  exact hQ w hS

theorem PutBack_ok (hS : Sat E w (Enc b s :: PSet p l :: M)) (ho : R.Ok s) (hf : B.Fine l) (hs : s.k + 100 ≤ 140737488355328) (at_ n v : Int) (hl : l.length ≤ 1048576)
    (hQ : ∀ w, Sat E w (Enc b (if R.There l.length at_ n ∧ R.Holds v n then R.TS.put ⟨s, l⟩ at_ (R.bitAt true n.toNat v) n.toNat else ⟨s, l⟩).s :: PSet p (if R.There l.length at_ n ∧ R.Holds v n then R.TS.put ⟨s, l⟩ at_ (R.bitAt true n.toNat v) n.toNat else ⟨s, l⟩).l :: M) →
      Q (.int .i64 (if R.There l.length at_ n ∧ R.Holds v n then 0 else 7)) w) :
    Calls Tryd.prog 79 #[.pointer (some ⟨b, 0, none⟩), .pointer (some ⟨p, 0, none⟩), .int .i64 at_, .int .i64 n, .int .i64 v] w (retP Q) := by
  refine tree_PutBack.calls ?_
  unfold tree_PutBack.F
  refine pc_tree_put (put_ok hS ho hf hs at_ n v true hl fun w hS => ?_)
  exact hQ w hS
theorem PutBack_in (hS : Sat E w (Enc b s :: PSet p l :: M)) (ho : R.Ok s) (hf : B.Fine l) (hs : s.k + 100 ≤ 140737488355328) (at_ n v : Int) (hl : l.length ≤ 1048576) (ht : R.There l.length at_ n) (hh : R.Holds v n)
    (hQ : ∀ w, Sat E w (Enc b (R.TS.put ⟨s, l⟩ at_ (R.bitAt true n.toNat v) n.toNat).s :: PSet p (R.TS.put ⟨s, l⟩ at_ (R.bitAt true n.toNat v) n.toNat).l :: M) → Q (.int .i64 0) w) :
    Calls Tryd.prog 79 #[.pointer (some ⟨b, 0, none⟩), .pointer (some ⟨p, 0, none⟩), .int .i64 at_, .int .i64 n, .int .i64 v] w (retP Q) := by
  refine PutBack_ok hS ho hf hs at_ n v hl fun w hS => ?_
  rw [if_pos ⟨ht, hh⟩] at hS ⊢
  exact hQ w hS

theorem TCost_ok (hS : Sat E w (PSet p l :: M)) (at_ n v : Int) (hl : l.length ≤ 1048576)
    (hQ : ∀ w, Sat E w (PSet p l :: M) → Q (.tuple #[.int .i64 (if R.There l.length at_ n ∧ R.Holds v n then R.costs l at_ (R.bitAt false n.toNat v) n.toNat else 0), .int .i64 (if R.There l.length at_ n ∧ R.Holds v n then 0 else 7)]) w) :
    Calls Tryd.prog 103 #[.pointer (some ⟨p, 0, none⟩), .int .i64 at_, .int .i64 n, .int .i64 v] w (retP Q) := by
  refine tree_Cost.calls ?_
  unfold tree_Cost.F
  refine pc_tree_cost (cost_ok hS at_ n v false hl fun w hS => ?_)
  repeat' (first | refine pN_via (by (intro K; simp (disch := omega) only [go_sem, pN_min, pN_max, w_u32, w_u64, Option.isNone_some, Option.isNone_none]; (try simp only [wrap_u32, wrap_u64]); rfl)) ?_ | fail)
  exact hQ w hS
theorem TCost_in (hS : Sat E w (PSet p l :: M)) (at_ n v : Int) (hl : l.length ≤ 1048576) (ht : R.There l.length at_ n) (hh : R.Holds v n)
    (hQ : ∀ w, Sat E w (PSet p l :: M) → Q (.tuple #[.int .i64 (R.costs l at_ (R.bitAt false n.toNat v) n.toNat), .int .i64 0]) w) :
    Calls Tryd.prog 103 #[.pointer (some ⟨p, 0, none⟩), .int .i64 at_, .int .i64 n, .int .i64 v] w (retP Q) := by
  refine TCost_ok hS at_ n v hl fun w hS => ?_
  rw [if_pos ⟨ht, hh⟩, if_pos ⟨ht, hh⟩]
  exact hQ w hS

theorem TCostBack_ok (hS : Sat E w (PSet p l :: M)) (at_ n v : Int) (hl : l.length ≤ 1048576)
    (hQ : ∀ w, Sat E w (PSet p l :: M) → Q (.tuple #[.int .i64 (if R.There l.length at_ n ∧ R.Holds v n then R.costs l at_ (R.bitAt true n.toNat v) n.toNat else 0), .int .i64 (if R.There l.length at_ n ∧ R.Holds v n then 0 else 7)]) w) :
    Calls Tryd.prog 101 #[.pointer (some ⟨p, 0, none⟩), .int .i64 at_, .int .i64 n, .int .i64 v] w (retP Q) := by
  refine tree_CostBack.calls ?_
  unfold tree_CostBack.F
  refine pc_tree_cost (cost_ok hS at_ n v true hl fun w hS => ?_)
  repeat' (first | refine pN_via (by (intro K; simp (disch := omega) only [go_sem, pN_min, pN_max, w_u32, w_u64, Option.isNone_some, Option.isNone_none]; (try simp only [wrap_u32, wrap_u64]); rfl)) ?_ | fail)
  exact hQ w hS
theorem TCostBack_in (hS : Sat E w (PSet p l :: M)) (at_ n v : Int) (hl : l.length ≤ 1048576) (ht : R.There l.length at_ n) (hh : R.Holds v n)
    (hQ : ∀ w, Sat E w (PSet p l :: M) → Q (.tuple #[.int .i64 (R.costs l at_ (R.bitAt true n.toNat v) n.toNat), .int .i64 0]) w) :
    Calls Tryd.prog 101 #[.pointer (some ⟨p, 0, none⟩), .int .i64 at_, .int .i64 n, .int .i64 v] w (retP Q) := by
  refine TCostBack_ok hS at_ n v hl fun w hS => ?_
  rw [if_pos ⟨ht, hh⟩, if_pos ⟨ht, hh⟩]
  exact hQ w hS
end

end Go.Proofs.YtbgnnjfpiblkmaaDoor
