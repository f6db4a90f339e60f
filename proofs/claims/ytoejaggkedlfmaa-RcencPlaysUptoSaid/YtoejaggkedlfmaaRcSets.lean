/-
  The statement RcencPlays: forks of the document's encoder; the two sets, made and compared.
-/
import Derived.Test.YtoejaggkedlfmaaLfPithlaw07
import Derived.Test.YtoejaggkedlfmaaRcenc
import Derived.Test.YtoejaggkedlfmaaRef7
namespace Go.Proofs.Ytoejaggkedlfmaa
open Go
set_option linter.unusedSimpArgs false
set_option linter.unnecessarySimpa false
set_option linter.unusedVariables false
attribute [local irreducible] oMv oV oU oCall oCallV oBi oBin oUn oLoad oStore oNil oFld oField oIdx oIndex oPick oAlloc oBox oBuild oBs oConv oMk oSl oExt oFn oIface oMap oLook oMapUp oRange oNext oAssert oPanic oRes pN pA pL pDr pIf gA pGd

/-- The two sets of both sides. -/
structure Two where
  p0 : Nat
  p1 : Nat
  r0 : Nat
  r1 : Nat

def Two.cells (t : Two) : List Value := [.pointer (some ⟨t.p0, 0, none⟩), .pointer (some ⟨t.p1, 0, none⟩), .pointer (some ⟨t.r0, 0, none⟩), .pointer (some ⟨t.r1, 0, none⟩)]
def SetsH (t : Two) (l : List Int × List Int) : HA := fun h => Sats [PSet t.p0 l.1, RSet t.r0 l.1, PSet t.p1 l.2, RSet t.r1 l.2] h

section
variable {E w : World} {M : List HA} {Q : Value → World → Prop} {b : Nat} {st : R.S} {t : Two} {l0 l1 : List Int}

theorem SetsH.opn (hS : Sat E w (SetsH t (l0, l1) :: M)) : Sat E w (PSet t.p0 l0 :: RSet t.r0 l0 :: PSet t.p1 l1 :: RSet t.r1 l1 :: M) := hS.open_ (M := [_, _, _, _]) fun _ h => h
theorem SetsH.shut (hS : Sat E w (PSet t.p0 l0 :: RSet t.r0 l0 :: PSet t.p1 l1 :: RSet t.r1 l1 :: M)) : Sat E w (SetsH t (l0, l1) :: M) := Sat.shut (M := [_, _, _, _]) hS fun _ h => h

theorem RFork_ok (hS : Sat E w (REnc b st :: M)) (hk : st.k + 5 ≤ 140737488355328) (hQ : ∀ c w, Sat E w (REnc c st :: REnc b st :: M) → Q (.pointer (some ⟨c, 0, none⟩)) w) :
    Calls Try.prog 37 #[.pointer (some ⟨b, 0, none⟩)] w (retP Q) := by
  refine pithref07_Encoder_Fork.calls ?_
  unfold pithref07_Encoder_Fork.F
  obtain ⟨s, hS⟩ := REnc.opn hS
  repeat' (first | refine pL_l hS (by first | rfl | assumption) ?_ | (refine pDr_go hS ?_; clear hS; intro w hS) | refine pA_via (by (intro K; simp (disch := omega) only [go_sem, pN_min, pN_max, w_u32, w_u64, Option.isNone_some, Option.isNone_none]; (try simp only [wrap_u32, wrap_u64]); rfl)) ?_ | fail)
  have hS := REnc.shut (b := b) (s := s) (st := st) hS rfl rfl
  refine pc_pithref07_Encoder_Bytes (RBytes_ok hS hk fun s2 w hS => ?_)
  obtain ⟨s, hS⟩ := REnc.opn (hS.fd (REnc b))
  repeat' (first | (refine pN_bx hS (by rfl) ?_; clear hS; intro a w hS) | refine ⟨trivial, ?_⟩ | refine ⟨⟨(by first | exact run_l hS (by first | rfl | assumption) | exact run_st hS (by first | rfl | omega) | exact run_ld1 ha hS | exact fun _ => run_l hS (by rfl) | exact fun _ => run_st hS (by first | rfl | omega) | exact fun _ => run_ld1 ha hS | exact fun h => Bool.noConfusion h), (by first | exact run_l hS (by first | rfl | assumption) | exact run_st hS (by first | rfl | omega) | exact run_ld1 ha hS | exact fun _ => run_l hS (by rfl) | exact fun _ => run_st hS (by first | rfl | omega) | exact fun _ => run_ld1 ha hS | exact fun h => Bool.noConfusion h), trivial⟩, ?_⟩ | refine pN_via (by (intro K; simp (disch := omega) only [go_sem, pN_min, pN_max, w_u32, w_u64, Option.isNone_some, Option.isNone_none]; (try simp only [wrap_u32, wrap_u64]); rfl)) ?_ | fail)
  have hS := REnc.shut (b := b) (s := s) (st := st) hS rfl rfl
  exact hQ _ _ (REnc.shut (b := a) (s := s2) hS rfl rfl).to

set_option maxHeartbeats 4000000 in
theorem sets_ok (hS : Sat E w M) (x0 x1 : Int) (hQ : ∀ (t : Two) (n0 n1 : Nat) w, n0 ≤ 40 → n1 ≤ 40 → Sat E w (SetsH t (List.replicate n0 1024, List.replicate n1 1024) :: M) → Q (.tuple #[.agg t.cells.toArray, .bool true]) w) :
    Calls Try.prog 29 #[.int .i64 x0, .int .i64 x1] w (retP Q) := by
  refine pithlaw07_sets.calls ?_
  unfold pithlaw07_sets.F
  repeat' (first | (refine pN_bl (C := cd_int) [.int .i64 x0, .int .i64 x1] [x0, x1] rfl rfl (by rfl) (Nat.lt_of_sub_pos (Nat.lt_of_lt_of_le Nat.zero_lt_one (Nat.le_of_ble_eq_true rfl))) hS (Nat.le_of_ble_eq_true rfl) ?_; clear hS; intro s w hS) | (refine pN_nz hS ?_; clear hS; intro a w hS) | refine pN_via (by (intro K; simp (disch := omega) only [go_sem, pN_min, pN_max, w_u32, w_u64, Option.isNone_some, Option.isNone_none]; (try simp only [wrap_u32, wrap_u64]); rfl)) ?_ | fail)
  rename_i r _ _
  revert a
  intro ax hS
  have hS : Sat E w (rows cd_int s [x0, x1] :: cel ax ⟨54, [.pointer none, .pointer none, .pointer none, .pointer none]⟩ :: cel r ⟨54, [.pointer none, .pointer none, .pointer none, .pointer none]⟩ :: M) := hS
  refine ⟨fun v w => ∃ i : Nat, v = .int .i64 i ∧ ((i = 0 ∧ Sat E w (rows cd_int s [x0, x1] :: cel ax ⟨54, [.pointer none, .pointer none, .pointer none, .pointer none]⟩ :: cel r ⟨54, [.pointer none, .pointer none, .pointer none, .pointer none]⟩ :: M)) ∨
      (i = 1 ∧ ∃ (p0 r0 n0 : Nat), n0 ≤ 40 ∧ Sat E w (PSet p0 (List.replicate n0 1024) :: RSet r0 (List.replicate n0 1024) :: rows cd_int s [x0, x1] :: cel ax ⟨54, [.pointer (some ⟨p0, 0, none⟩), .pointer none, .pointer (some ⟨r0, 0, none⟩), .pointer none]⟩ :: cel r ⟨54, [.pointer none, .pointer none, .pointer none, .pointer none]⟩ :: M)) ∨
      (i = 2 ∧ ∃ (t : Two) (n0 n1 : Nat), n0 ≤ 40 ∧ n1 ≤ 40 ∧ Sat E w (cel ax ⟨54, t.cells⟩ :: cel r ⟨54, [.pointer none, .pointer none, .pointer none, .pointer none]⟩ :: SetsH t (List.replicate n0 1024, List.replicate n1 1024) :: M))), fun v _ => 2 - (RowKit.intOf v).toNat, ⟨0, rfl, Or.inl ⟨rfl, hS⟩⟩, ?_⟩
  clear hS
  rintro _ _ w ⟨i, rfl, ⟨rfl, hS⟩ | ⟨rfl, p0, r0, n0, hn0, hS⟩ | ⟨rfl, t, n0, n1, hn0, hn1, hS⟩⟩
  · have hx : ([x0, x1] : List Int)[0]? = some x0 := rfl
    repeat' (first | (refine pN_lss_s ?_ ?_ <;> intro hc <;> try (exfalso; omega)) | refine pIf_t ?_ | fail)
    refine ⟨fun w => ∃ (p0 r0 n0 : Nat), n0 ≤ 40 ∧ Sat E w (PSet p0 (List.replicate n0 1024) :: RSet r0 (List.replicate n0 1024) :: rows cd_int s [x0, x1] :: cel ax ⟨54, [.pointer (some ⟨p0, 0, none⟩), .pointer none, .pointer (some ⟨r0, 0, none⟩), .pointer none]⟩ :: cel r ⟨54, [.pointer none, .pointer none, .pointer none, .pointer none]⟩ :: M), ?_, ?_⟩
    rotate_left 1
    · clear hS
      rintro _ w ⟨p0, r0, n0, hn0, hS⟩
      repeat' (first | refine pN_via (by (intro K; simp (disch := omega) only [go_sem, pN_min, pN_max, w_u32, w_u64, Option.isNone_some, Option.isNone_none]; (try simp only [wrap_u32, wrap_u64]); rfl)) ?_ | fail)
      exact ⟨⟨1, rfl, Or.inr (Or.inl ⟨rfl, p0, r0, n0, hn0, hS⟩)⟩, by simp [RowKit.intOf] <;> omega⟩
    repeat' (first | refine pN_ld1 ha hS ?_ | refine pN_ixk hS _ (by first | rfl | (exact (Int.toNat_of_nonneg (by omega)).symm)) (by first | rfl | omega | simpa only [go_sem] using True.intro | (simp only [go_sem]; omega)) (by assumption) fun a ha hel => ?_ | fail)
    refine ⟨fun v w => ∃ n : Nat, v = .int .i64 n ∧ n ≤ 40 ∧ Sat E w (rows cd_int s [x0, x1] :: cel ax ⟨54, [.pointer none, .pointer none, .pointer none, .pointer none]⟩ :: cel r ⟨54, [.pointer none, .pointer none, .pointer none, .pointer none]⟩ :: M), ?_, ?_⟩
    · repeat' (first | ((first | refine pN_lss_s ?_ ?_ | refine pN_gtr_s ?_ ?_) <;> intro hc <;> try (exfalso; omega)) | refine pIf_t ?_ | refine pIf_f ?_ | refine pGd_go (by rfl) ?_ | refine pGd_no (by rfl) ?_ | refine pN_via (by (intro K; simp (disch := omega) only [go_sem, pN_min, pN_max, w_u32, w_u64, Option.isNone_some, Option.isNone_none]; (try simp only [wrap_u32, wrap_u64]); rfl)) ?_ | fail)
      · exact ⟨3, rfl, by omega, hS⟩
      · exact ⟨3, rfl, by omega, hS⟩
      · exact ⟨x0.toNat, congrArg (Value.int .i64) (by omega), by omega, hS⟩
    clear hS
    rintro _ _ w ⟨n, rfl, hn, hS⟩
    refine pc_prob_New (New_ok hS n (by omega) (by omega) fun p w hS => ?_)
    repeat' (first | (refine pc_pithref06_New (RNew_ok hS n (by omega) (by omega) ?_); clear hS; intro q w hS) | (refine pN_neq_s ?_ ?_ <;> intro hc <;> try (exfalso; first | omega | exact hc rfl | exact hc (by assumption) | exact absurd hc (by assumption))) | refine pIf_f ?_ | refine pGd_go (by rfl) ?_ | (refine pN_s hS (by first | exact Nat.le_of_ble_eq_true rfl | assumption) (by rfl) ?_; clear hS; intro w hS; try simp only [List.set_cons_zero, List.set_cons_succ] at hS) | refine pN_via (by (intro K; simp (disch := omega) only [go_sem, pN_min, pN_max, w_u32, w_u64, Option.isNone_some, Option.isNone_none]; (try simp only [wrap_u32, wrap_u64]); rfl)) ?_ | fail)
    rw [Int.toNat_natCast] at hS
    exact ⟨p, q, n, hn, hS.to⟩
  · have hx : ([x0, x1] : List Int)[1]? = some x1 := rfl
    repeat' (first | (refine pN_lss_s ?_ ?_ <;> intro hc <;> try (exfalso; omega)) | refine pIf_t ?_ | fail)
    refine ⟨fun w => ∃ (t : Two) (n0 n1 : Nat), n0 ≤ 40 ∧ n1 ≤ 40 ∧ Sat E w (cel ax ⟨54, t.cells⟩ :: cel r ⟨54, [.pointer none, .pointer none, .pointer none, .pointer none]⟩ :: SetsH t (List.replicate n0 1024, List.replicate n1 1024) :: M), ?_, ?_⟩
    rotate_left 1
    · clear hS
      rintro _ w ⟨t, n0, n1, hn0, hn1, hS⟩
      repeat' (first | refine pN_via (by (intro K; simp (disch := omega) only [go_sem, pN_min, pN_max, w_u32, w_u64, Option.isNone_some, Option.isNone_none]; (try simp only [wrap_u32, wrap_u64]); rfl)) ?_ | fail)
      exact ⟨⟨2, rfl, Or.inr (Or.inr ⟨rfl, t, n0, n1, hn0, hn1, hS⟩)⟩, by simp [RowKit.intOf] <;> omega⟩
    repeat' (first | refine pN_ld1 ha hS ?_ | refine pN_ixk hS _ (by first | rfl | (exact (Int.toNat_of_nonneg (by omega)).symm)) (by first | rfl | omega | simpa only [go_sem] using True.intro | (simp only [go_sem]; omega)) (by assumption) fun a ha hel => ?_ | fail)
    refine ⟨fun v w => ∃ n : Nat, v = .int .i64 n ∧ n ≤ 40 ∧ Sat E w (PSet p0 (List.replicate n0 1024) :: RSet r0 (List.replicate n0 1024) :: rows cd_int s [x0, x1] :: cel ax ⟨54, [.pointer (some ⟨p0, 0, none⟩), .pointer none, .pointer (some ⟨r0, 0, none⟩), .pointer none]⟩ :: cel r ⟨54, [.pointer none, .pointer none, .pointer none, .pointer none]⟩ :: M), ?_, ?_⟩
    · repeat' (first | ((first | refine pN_lss_s ?_ ?_ | refine pN_gtr_s ?_ ?_) <;> intro hc <;> try (exfalso; omega)) | refine pIf_t ?_ | refine pIf_f ?_ | refine pGd_go (by rfl) ?_ | refine pGd_no (by rfl) ?_ | refine pN_via (by (intro K; simp (disch := omega) only [go_sem, pN_min, pN_max, w_u32, w_u64, Option.isNone_some, Option.isNone_none]; (try simp only [wrap_u32, wrap_u64]); rfl)) ?_ | fail)
      · exact ⟨3, rfl, by omega, hS⟩
      · exact ⟨3, rfl, by omega, hS⟩
      · exact ⟨x1.toNat, congrArg (Value.int .i64) (by omega), by omega, hS⟩
    clear hS
    rintro _ _ w ⟨n, rfl, hn, hS⟩
    refine pc_prob_New (New_ok hS n (by omega) (by omega) fun p w hS => ?_)
    repeat' (first | (refine pc_pithref06_New (RNew_ok hS n (by omega) (by omega) ?_); clear hS; intro q w hS) | (refine pN_neq_s ?_ ?_ <;> intro hc <;> try (exfalso; first | omega | exact hc rfl | exact hc (by assumption) | exact absurd hc (by assumption))) | refine pIf_f ?_ | refine pGd_go (by rfl) ?_ | (refine pN_s hS (by first | exact Nat.le_of_ble_eq_true rfl | assumption) (by rfl) ?_; clear hS; intro w hS; try simp only [List.set_cons_zero, List.set_cons_succ] at hS) | refine pN_via (by (intro K; simp (disch := omega) only [go_sem, pN_min, pN_max, w_u32, w_u64, Option.isNone_some, Option.isNone_none]; (try simp only [wrap_u32, wrap_u64]); rfl)) ?_ | fail)
    rw [Int.toNat_natCast] at hS
    have hS : Sat E w (PSet p0 (List.replicate n0 1024) :: RSet r0 (List.replicate n0 1024) :: PSet p (List.replicate n 1024) :: RSet q (List.replicate n 1024) :: cel ax ⟨54, [.pointer (some ⟨p0, 0, none⟩), .pointer (some ⟨p, 0, none⟩), .pointer (some ⟨r0, 0, none⟩), .pointer (some ⟨q, 0, none⟩)]⟩ :: cel r ⟨54, [.pointer none, .pointer none, .pointer none, .pointer none]⟩ :: M) := hS.to
    have hS := SetsH.shut (t := ⟨p0, p, r0, q⟩) hS
    exact ⟨⟨p0, p, r0, q⟩, n0, n, hn0, hn, hS.fd2 (cel ax) (cel r)⟩
  · simp only [Two.cells] at hS
    repeat' (first | (refine pN_lss_s ?_ ?_ <;> intro hc <;> try (exfalso; omega)) | refine pIf_f ?_ | refine pN_la hS (by rfl) ?_ | refine pL_ra hS (by rfl) ?_ | (refine pN_sa hS (by rfl) (by rfl) (by rfl) ?_; clear hS; intro w hS; try dsimp only at hS) | fail)
    exact hQ t n0 n1 _ hn0 hn1 hS.to
theorem RAt_in {l : List Int} (hS : Sat E w (RSet b l :: M)) (i : Int) {x : Int} (h0 : 0 ≤ i) (hx : l[i.toNat]? = some x) (hQ : ∀ w, Sat E w (RSet b l :: M) → Q (.tuple #[.int .i64 x, .int .i64 0]) w) :
    Calls Try.prog 79 #[.pointer (some ⟨b, 0, none⟩), .int .i64 i] w (retP Q) := by
  have hlt : i.toNat < l.length := (List.getElem?_eq_some_iff.1 hx).1
  refine RAt_ok hS i fun w hS => ?_
  have e : l.getD i.toNat 0 = x := by rw [List.getD_eq_getElem?_getD, hx]; rfl
  rw [if_pos (by omega), if_pos (by omega), e]
  exact hQ w hS

set_option maxHeartbeats 4000000 in
theorem alike_ok (hS : Sat E w (SetsH t (l0, l1) :: M)) (h0 : l0.length ≤ 40) (h1 : l1.length ≤ 40) (hQ : ∀ w, Sat E w (SetsH t (l0, l1) :: M) → Q (.bool true) w) :
    Calls Try.prog 38 #[.agg t.cells.toArray] w (retP Q) := by
  refine pithlaw07_Sets_alike.calls ?_
  unfold pithlaw07_Sets_alike.F
  obtain ⟨p0, p1, r0, r1⟩ := t
  unfold Two.cells
  repeat' (first | (refine pN_bx hS (by rfl) ?_; clear hS; intro a w hS) | fail)
  refine ⟨fun v w => ∃ i : Nat, v = .int .i64 i ∧ i ≤ 2 ∧ Sat E w (cel a ⟨54, [.pointer (some ⟨p0, 0, none⟩), .pointer (some ⟨p1, 0, none⟩), .pointer (some ⟨r0, 0, none⟩), .pointer (some ⟨r1, 0, none⟩)]⟩ :: SetsH ⟨p0, p1, r0, r1⟩ (l0, l1) :: M), fun v _ => 2 - (RowKit.intOf v).toNat, ⟨0, rfl, by omega, hS.to⟩, ?_⟩
  clear hS
  rintro _ _ w ⟨i, rfl, hi, hS⟩
  have key : i = 0 ∨ i = 1 ∨ i = 2 := by omega
  rcases key with rfl | rfl | rfl
  · have hS := SetsH.opn (hS.fd (SetsH ⟨p0, p1, r0, r1⟩))
    dsimp only at hS
    obtain ⟨s2, hS⟩ := RSet.opn (hS.fd (RSet r0))
    repeat' (first | (refine pc_prob_Set_Len (Len_ok (hS.fd (PSet p0)) ?_); clear hS; intro w hS) | (refine pN_lss_s ?_ ?_ <;> intro hc <;> try (exfalso; omega)) | (refine pN_neq_s ?_ ?_ <;> intro hc <;> try (exfalso; first | omega | exact hc rfl | exact hc (by assumption) | exact absurd hc (by assumption))) | refine pIf_t ?_ | refine pIf_f ?_ | refine pN_l hS (by first | rfl | assumption) ?_ | refine pN_via (by (intro K; simp (disch := omega) only [go_sem, pN_min, pN_max, w_u32, w_u64, Option.isNone_some, Option.isNone_none]; (try simp only [wrap_u32, wrap_u64]); rfl)) ?_ | fail)
    have hS := RSet.shut (b := r0) (s := s2) hS rfl
    refine ⟨fun v w => ∃ j : Nat, v = .int .i64 j ∧ j ≤ l0.length ∧ Sat E w (PSet p0 l0 :: RSet r0 l0 :: PSet p1 l1 :: RSet r1 l1 :: cel a ⟨54, [.pointer (some ⟨p0, 0, none⟩), .pointer (some ⟨p1, 0, none⟩), .pointer (some ⟨r0, 0, none⟩), .pointer (some ⟨r1, 0, none⟩)]⟩ :: M), fun v _ => l0.length - (RowKit.intOf v).toNat, ⟨0, rfl, Nat.zero_le _, hS.to⟩, ?_⟩
    clear hS
    rintro _ _ w ⟨j, rfl, hj, hS⟩
    by_cases hlt : j < l0.length
    · obtain ⟨y, hy⟩ : ∃ y, l0[j]? = some y := ⟨l0[j]'hlt, by simp⟩
      repeat' (first | (refine pc_prob_Set_At (At_in (hS.fd (PSet p0)) (j : Int) (by omega) (by rw [Int.toNat_natCast]; exact hy) ?_); clear hS; intro w hS) | (refine pc_pithref06_Set_At (RAt_in (hS.fd (RSet r0)) (j : Int) (by omega) (by rw [Int.toNat_natCast]; exact hy) ?_); clear hS; intro w hS) | (refine pN_lss_s ?_ ?_ <;> intro hc <;> try (exfalso; omega)) | (refine pN_neq_s ?_ ?_ <;> intro hc <;> try (exfalso; first | omega | exact hc rfl | exact hc (by assumption) | exact absurd hc (by assumption))) | refine pIf_t ?_ | refine pIf_f ?_ | refine pGd_go (by rfl) ?_ | refine pN_l hS (by first | rfl | assumption) ?_ | refine pN_via (by (intro K; simp (disch := omega) only [go_sem, pN_min, pN_max, w_u32, w_u64, Option.isNone_some, Option.isNone_none]; (try simp only [wrap_u32, wrap_u64]); rfl)) ?_ | fail)
      exact ⟨⟨j + 1, rfl, by omega, hS.to⟩, by simp [RowKit.intOf] <;> omega⟩
    · repeat' (first | (refine pN_lss_s ?_ ?_ <;> intro hc <;> try (exfalso; omega)) | refine pIf_f ?_ | refine pN_via (by (intro K; simp (disch := omega) only [go_sem, pN_min, pN_max, w_u32, w_u64, Option.isNone_some, Option.isNone_none]; (try simp only [wrap_u32, wrap_u64]); rfl)) ?_ | fail)
      have hS : Sat E w (PSet p0 l0 :: RSet r0 l0 :: PSet p1 l1 :: RSet r1 l1 :: cel a ⟨54, [.pointer (some ⟨p0, 0, none⟩), .pointer (some ⟨p1, 0, none⟩), .pointer (some ⟨r0, 0, none⟩), .pointer (some ⟨r1, 0, none⟩)]⟩ :: M) := hS.to
      have hS := SetsH.shut (t := ⟨p0, p1, r0, r1⟩) hS
      exact ⟨⟨1, rfl, by omega, hS.to⟩, by simp [RowKit.intOf] <;> omega⟩
  · have hS := SetsH.opn (hS.fd (SetsH ⟨p0, p1, r0, r1⟩))
    dsimp only at hS
    obtain ⟨s2, hS⟩ := RSet.opn (hS.fd (RSet r1))
    repeat' (first | (refine pc_prob_Set_Len (Len_ok (hS.fd (PSet p1)) ?_); clear hS; intro w hS) | (refine pN_lss_s ?_ ?_ <;> intro hc <;> try (exfalso; omega)) | (refine pN_neq_s ?_ ?_ <;> intro hc <;> try (exfalso; first | omega | exact hc rfl | exact hc (by assumption) | exact absurd hc (by assumption))) | refine pIf_t ?_ | refine pIf_f ?_ | refine pN_l hS (by first | rfl | assumption) ?_ | refine pN_via (by (intro K; simp (disch := omega) only [go_sem, pN_min, pN_max, w_u32, w_u64, Option.isNone_some, Option.isNone_none]; (try simp only [wrap_u32, wrap_u64]); rfl)) ?_ | fail)
    have hS := RSet.shut (b := r1) (s := s2) hS rfl
    refine ⟨fun v w => ∃ j : Nat, v = .int .i64 j ∧ j ≤ l1.length ∧ Sat E w (PSet p0 l0 :: RSet r0 l0 :: PSet p1 l1 :: RSet r1 l1 :: cel a ⟨54, [.pointer (some ⟨p0, 0, none⟩), .pointer (some ⟨p1, 0, none⟩), .pointer (some ⟨r0, 0, none⟩), .pointer (some ⟨r1, 0, none⟩)]⟩ :: M), fun v _ => l1.length - (RowKit.intOf v).toNat, ⟨0, rfl, Nat.zero_le _, hS.to⟩, ?_⟩
    clear hS
    rintro _ _ w ⟨j, rfl, hj, hS⟩
    by_cases hlt : j < l1.length
    · obtain ⟨y, hy⟩ : ∃ y, l1[j]? = some y := ⟨l1[j]'hlt, by simp⟩
      repeat' (first | (refine pc_prob_Set_At (At_in (hS.fd (PSet p1)) (j : Int) (by omega) (by rw [Int.toNat_natCast]; exact hy) ?_); clear hS; intro w hS) | (refine pc_pithref06_Set_At (RAt_in (hS.fd (RSet r1)) (j : Int) (by omega) (by rw [Int.toNat_natCast]; exact hy) ?_); clear hS; intro w hS) | (refine pN_lss_s ?_ ?_ <;> intro hc <;> try (exfalso; omega)) | (refine pN_neq_s ?_ ?_ <;> intro hc <;> try (exfalso; first | omega | exact hc rfl | exact hc (by assumption) | exact absurd hc (by assumption))) | refine pIf_t ?_ | refine pIf_f ?_ | refine pGd_go (by rfl) ?_ | refine pN_l hS (by first | rfl | assumption) ?_ | refine pN_via (by (intro K; simp (disch := omega) only [go_sem, pN_min, pN_max, w_u32, w_u64, Option.isNone_some, Option.isNone_none]; (try simp only [wrap_u32, wrap_u64]); rfl)) ?_ | fail)
      exact ⟨⟨j + 1, rfl, by omega, hS.to⟩, by simp [RowKit.intOf] <;> omega⟩
    · repeat' (first | (refine pN_lss_s ?_ ?_ <;> intro hc <;> try (exfalso; omega)) | refine pIf_f ?_ | refine pN_via (by (intro K; simp (disch := omega) only [go_sem, pN_min, pN_max, w_u32, w_u64, Option.isNone_some, Option.isNone_none]; (try simp only [wrap_u32, wrap_u64]); rfl)) ?_ | fail)
      have hS : Sat E w (PSet p0 l0 :: RSet r0 l0 :: PSet p1 l1 :: RSet r1 l1 :: cel a ⟨54, [.pointer (some ⟨p0, 0, none⟩), .pointer (some ⟨p1, 0, none⟩), .pointer (some ⟨r0, 0, none⟩), .pointer (some ⟨r1, 0, none⟩)]⟩ :: M) := hS.to
      have hS := SetsH.shut (t := ⟨p0, p1, r0, r1⟩) hS
      exact ⟨⟨2, rfl, by omega, hS.to⟩, by simp [RowKit.intOf] <;> omega⟩
  · repeat' (first | (refine pN_lss_s ?_ ?_ <;> intro hc <;> try (exfalso; omega)) | refine pIf_f ?_ | fail)
    exact hQ _ hS.to
end

end Go.Proofs.Ytoejaggkedlfmaa
