/-
  Package rcenc: the encoder, as numbers.
-/
import Derived.Test.YtbgnnjfpiblkmaaDoorLfRcenc
import Derived.Test.YtbgnnjfpiblkmaaDoorProb
import Derived.Test.YtbgnnjfpiblkmaaDoorRPure
namespace Go.Proofs.YtbgnnjfpiblkmaaDoor
open Go
set_option linter.unusedSimpArgs false
set_option linter.unnecessarySimpa false
set_option linter.unusedSectionVars false
set_option linter.unusedVariables false
attribute [local irreducible] oMv oV oU oCall oCallV oBi oBin oUn oLoad oStore oNil oFld oField oIdx oIndex oPick oAlloc oBox oBuild oBs oConv oMk oSl oExt oFn oIface oMap oLook oMapUp oRange oNext oEntry oInv oAssert oPanic oRes pN pA pL pDr pIf gA pGd

/-- An encoder's own state in block b. -/
def EncE (b : Nat) (e : R.E) : HA := fun h => ∃ s : Sl, Sats [cel b ⟨81, [.int .u64 e.low, .int .u32 e.rng, bv e.held, .int .i64 e.wait, .slice s.a e.out.length s.c]⟩, rows cd_uint8 s e.out] h
/-- An encoder, as the document's numbers. -/
def Enc (b : Nat) (s : R.S) : HA := fun h => ∃ e : R.E, R.Rep e s ∧ R.Ok s ∧ EncE b e h

section
variable {E w : World} {M : List HA} {Q : Value → World → Prop} {b : Nat} {e : R.E} {st : R.S}

theorem EncE.opn (hS : Sat E w (EncE b e :: M)) : ∃ s : Sl, Sat E w (cel b ⟨81, [.int .u64 e.low, .int .u32 e.rng, bv e.held, .int .i64 e.wait, .slice s.a e.out.length s.c]⟩ :: rows cd_uint8 s e.out :: M) := by
  obtain ⟨s, hS⟩ := hS.ex
  exact ⟨s, hS.open_ (M := [_, _]) fun _ h => h⟩
theorem EncE.shut {s : Sl} {L N : List HA} {o : Ob} {out : List UInt8} (hS : Sat E w L) (e : R.E) [h1 : Fnd (cel b) L o N] [h2 : Fnd (rows cd_uint8 s) N out M] (ho : o = ⟨81, [.int .u64 e.low, .int .u32 e.rng, bv e.held, .int .i64 e.wait, .slice s.a e.out.length s.c]⟩) (he : out = e.out) : Sat E w (EncE b e :: M) := by
  subst ho he
  exact Sat.shut (M := [_, _]) (hS.fd2 (cel b) (rows cd_uint8 s)) fun _ h => ⟨s, h⟩
theorem Enc.opn (hS : Sat E w (Enc b st :: M)) : ∃ e, R.Rep e st ∧ R.Ok st ∧ Sat E w (EncE b e :: M) := by
  obtain ⟨e, ⟨h1, h2⟩, hS⟩ := hS.opn (p := fun e => R.Rep e st ∧ R.Ok st) (B := fun e => EncE b e) fun hp ⟨e, h1, h2, h3⟩ => ⟨e, ⟨h1, h2⟩, h3⟩
  exact ⟨e, h1, h2, hS⟩
theorem Enc.shut (hS : Sat E w (EncE b e :: M)) (h1 : R.Rep e st) (h2 : R.Ok st) : Sat E w (Enc b st :: M) := hS.weaken fun _ h => ⟨e, h1, h2, h⟩

theorem shift_ok (hS : Sat E w (EncE b e :: M)) (i1 : 0 ≤ e.low) (i2 : e.low < 8589934592) (hl : e.out.length + e.wait + 1 ≤ 140737488355328) (hQ : ∀ w, Sat E w (EncE b e.shift :: M) → Q (.tuple #[]) w) : Calls Tryd.prog 40 #[.pointer (some ⟨b, 0, none⟩)] w (retP Q) := by
  refine rcenc_Encoder_shift.calls ?_
  unfold rcenc_Encoder_shift.F
  obtain ⟨s, hS⟩ := EncE.opn hS
  refine ⟨_, ?_, fun _ _ h => h⟩
  repeat' (first | ((first | refine pN_lss_s ?_ ?_ | refine pN_gtr_s ?_ ?_) <;> intro hc <;> try (exfalso; omega)) | refine pIf_t ?_ | refine pIf_f ?_ | refine pGd_go (by rfl) ?_ | refine pGd_no (by rfl) ?_ | refine pN_tob ?_ | refine pN_l hS (by first | rfl | assumption) ?_ | refine pL_l hS (by first | rfl | assumption) ?_ | (refine pN_s hS (by first | exact Nat.le_of_ble_eq_true rfl | assumption) (by rfl) ?_; clear hS; intro w hS; try simp only [List.set_cons_zero, List.set_cons_succ] at hS) | (refine pDr_go hS ?_; clear hS; intro w hS) | refine ⟨trivial, ?_⟩ | refine ⟨⟨(by first | exact run_l hS (by first | rfl | assumption) | exact run_st hS (by first | rfl | omega) | exact run_ld1 ha hS | exact fun _ => run_l hS (by rfl) | exact fun _ => run_st hS (by first | rfl | omega) | exact fun _ => run_ld1 ha hS | exact fun h => Bool.noConfusion h), trivial⟩, ?_⟩ | (refine pN_b1 hS (by rfl) (by decide) ?_; clear hS; intro s w hS) | (refine pN_app hS (by first | rfl | omega | simpa only [go_sem] using True.intro | (simp only [go_sem]; omega)) (by first | rfl | omega | simpa only [go_sem] using True.intro | (simp only [go_sem]; omega)) (by first | omega | (simp only [go_sem]; omega)) ?_; clear hS; intro s w hS) | refine pN_via (by (intro K; simp (disch := omega) only [go_sem, pN_min, pN_max, w_u32, w_u64, Option.isNone_some, Option.isNone_none]; (try simp only [wrap_u32, wrap_u64]); rfl)) ?_ | refine pA_via (by (intro K; simp (disch := omega) only [go_sem, pN_min, pN_max, w_u32, w_u64, Option.isNone_some, Option.isNone_none]; (try simp only [wrap_u32, wrap_u64]); rfl)) ?_ | fail)
  rotate_left 2
  · refine hQ _ ?_
    unfold R.E.shift
    rw [if_neg (by omega)]
    exact EncE.shut (b := b) (s := s) hS _ rfl rfl
  all_goals
    refine ⟨fun w => ∃ (j : Nat) (s : Sl), j ≤ e.wait ∧ Sat E w (cel b ⟨81, [.int .u64 e.low, .int .u32 e.rng, bv e.held, .int .i64 (e.wait - j : Nat), .slice s.a (e.out ++ [e.held + byteOf (e.low / 4294967296)] ++ List.replicate j (255 + byteOf (e.low / 4294967296))).length s.c]⟩ :: rows cd_uint8 s (e.out ++ [e.held + byteOf (e.low / 4294967296)] ++ List.replicate j (255 + byteOf (e.low / 4294967296))) :: M),
      fun w => wInt b 3 w, ⟨0, s, Nat.zero_le _, by simp only [List.replicate_zero, List.append_nil]; exact hS.to⟩, ?_⟩
    clear hS
    rintro _ w ⟨j, s, hj, hS⟩
    have hm := wInt_eq (b := b) (i := 3) hS rfl
    repeat' (first | (refine pN_gtr_s ?_ ?_ <;> intro hc <;> try (exfalso; omega)) | refine pIf_t ?_ | refine pIf_f ?_ | refine pN_tob ?_ | refine pN_l hS (by first | rfl | assumption) ?_ | (refine pN_s hS (by first | exact Nat.le_of_ble_eq_true rfl | assumption) (by rfl) ?_; clear hS; intro w hS; try simp only [List.set_cons_zero, List.set_cons_succ] at hS) | (refine pN_b1 hS (by rfl) (by decide) ?_; clear hS; intro s w hS) | (refine pN_app hS (by first | rfl | omega | simpa only [go_sem] using True.intro | (simp only [go_sem]; omega)) (by first | rfl | omega | simpa only [go_sem] using True.intro | (simp only [go_sem]; omega)) (by first | omega | (simp only [go_sem]; omega)) ?_; clear hS; intro s w hS) | refine pN_via (by (intro K; simp (disch := omega) only [go_sem, pN_min, pN_max, w_u32, w_u64, Option.isNone_some, Option.isNone_none]; (try simp only [wrap_u32, wrap_u64]); rfl)) ?_ | fail)
    · refine ⟨⟨j + 1, s, by omega, ?_⟩, ?_⟩
      · have e1 : ((e.wait - (j + 1) : Nat) : Int) = ((e.wait - j : Nat) : Int) - 1 := by omega
        rw [List.replicate_succ', ← List.append_assoc _ (List.replicate _ _), e1]
        exact hS.to
      · show wInt b 3 _ < wInt b 3 _
        rw [hm, wInt_eq (b := b) (i := 3) hS rfl]
        omega
    · refine hQ _ ?_
      unfold R.E.shift
      rw [if_pos (by omega)]
      obtain rfl : j = e.wait := by omega
      exact EncE.shut (b := b) (s := s) hS _ (by simp) rfl

theorem widen_ok (hS : Sat E w (EncE b e :: M)) (hi : R.Rep e st) (h1 : e.rng < 4294967296) (hl : st.k + 10 ≤ 140737488355328) (hQ : ∀ e' w, R.Rep e' st.widen → Sat E w (EncE b e' :: M) → Q (.tuple #[]) w) : Calls Tryd.prog 86 #[.pointer (some ⟨b, 0, none⟩)] w (retP Q) := by
  refine rcenc_Encoder_widen.calls ?_
  unfold rcenc_Encoder_widen.F
  have i0 := hi.inv.r0
  have j0 := hi.rng
  refine ⟨fun w => ∃ (e' : R.E) (st' : R.S), R.Rep e' st' ∧ st'.widen = st.widen ∧ e'.rng < 4294967296 ∧ st'.k ≤ st'.widen.k ∧ Sat E w (EncE b e' :: M), fun w => 16777216 - wInt b 1 w, ⟨e, st, hi, rfl, h1, R.widen_mono st, hS⟩, ?_⟩
  clear hS
  rintro _ w ⟨e', st', hr, hw, h2, hk, hS⟩
  obtain ⟨s, hS⟩ := EncE.opn hS
  have i1 := hr.inv.l0
  have i2 := hr.inv.sum
  have i3 := hr.inv.r0
  have i4 := hr.rng
  have i5 := hr.len
  have i6 := (R.widen_k _ st rfl (by omega)).1
  rw [hw] at hk
  have hm := wInt_eq (b := b) (i := 1) hS rfl
  repeat' (first | (refine pN_lss_s ?_ ?_ <;> intro hc <;> try (exfalso; omega)) | refine pIf_t ?_ | refine pIf_f ?_ | refine pN_l hS (by first | rfl | assumption) ?_ | (refine pN_s hS (by first | exact Nat.le_of_ble_eq_true rfl | assumption) (by rfl) ?_; clear hS; intro w hS; try simp only [List.set_cons_zero, List.set_cons_succ] at hS) | refine pN_via (by (intro K; simp (disch := omega) only [go_sem, pN_min, pN_max, w_u32, w_u64, Option.isNone_some, Option.isNone_none]; (try simp only [wrap_u32, wrap_u64]); rfl)) ?_ | fail)
  · have hS := EncE.shut (b := b) (s := s) hS { e' with rng := e'.rng * 256 } rfl rfl
    refine pc_rcenc_Encoder_shift (shift_ok hS i1 (by simp only; omega) (by simp only; omega) fun w hS => ?_)
    rw [R.shift_with] at hS
    have hr' := hr.shift (e'.rng * 256) (by omega) (by omega) (by omega)
    refine ⟨⟨_, _, hr', ?_, by simp only; omega, R.widen_mono _, hS⟩, ?_⟩
    · rw [i4, ← R.S.widen_go (by omega) (by omega), hw]
    · obtain ⟨s, hS⟩ := EncE.opn hS
      show 16777216 - wInt b 1 _ < 16777216 - wInt b 1 _
      rw [hm, wInt_eq (b := b) (i := 1) hS rfl]
      simp only
      omega
  · rw [← hw, R.S.widen_no (by omega)] at hQ
    exact hQ _ _ hr (EncE.shut (b := b) (s := s) hS e' rfl rfl)

theorem NewE_ok (hS : Sat E w M) (hQ : ∀ b w, Sat E w (Enc b R.S.new :: M) → Q (.pointer (some ⟨b, 0, none⟩)) w) : Calls Tryd.prog 18 #[] w (retP Q) := by
  refine rcenc_New.calls ?_
  unfold rcenc_New.F
  repeat' (first | (refine pN_bx hS (by rfl) ?_; clear hS; intro a w hS) | refine pN_via (by (intro K; simp (disch := omega) only [go_sem, pN_min, pN_max, w_u32, w_u64, Option.isNone_some, Option.isNone_none]; (try simp only [wrap_u32, wrap_u64]); rfl)) ?_ | fail)
  have hS : Sat E w (rows cd_uint8 ⟨none, 0⟩ [] :: cel a _ :: M) := hS.nil 5 1
  exact hQ _ _ (Enc.shut (EncE.shut (b := a) (s := ⟨none, 0⟩) hS R.E.new rfl rfl) R.Rep.new R.Ok.new)

theorem Bit_ok {p : Nat} {l : List Int} (hS : Sat E w (Enc b st :: PSet p l :: M)) (hf : B.Fine l) (hk : st.k + 10 ≤ 140737488355328) (i bit : Int)
    (hQ : ∀ w, Sat E w (Enc b (if 0 ≤ i ∧ i < l.length then st.cut (B.bound st.R (l.getD i.toNat 0)) bit else st) :: PSet p (if 0 ≤ i ∧ i < l.length then l.set i.toNat (B.next (l.getD i.toNat 0) bit) else l) :: M) → Q (.int .i64 (if 0 ≤ i ∧ i < l.length then 0 else 7)) w) :
    Calls Tryd.prog 80 #[.pointer (some ⟨b, 0, none⟩), .pointer (some ⟨p, 0, none⟩), .int .i64 i, .int .i64 bit] w (retP Q) := by
  refine rcenc_Encoder_Bit.calls ?_
  unfold rcenc_Encoder_Bit.F
  refine pc_prob_Set_At (At_ok (hS.fd (PSet p)) i fun w hS => ?_)
  by_cases h : 0 ≤ i ∧ i < l.length
  · simp only [if_pos h] at hQ ⊢
    have hx : l[i.toNat]? = some (l.getD i.toNat 0) := by
      rw [List.getD_eq_getElem?_getD, List.getElem?_eq_getElem (show i.toNat < l.length by omega)]; rfl
    generalize l.getD i.toNat 0 = x at hQ hx ⊢
    have hp := hf.get hx
    obtain ⟨e, hr, ho, hS⟩ := Enc.opn (hS.fd (Enc b))
    obtain ⟨s, hS⟩ := EncE.opn hS
    have j1 := hr.rng
    have j2 := hr.inv.l0
    have j3 := hr.inv.sum
    have j4 := ho.r0
    have j5 := ho.r1
    have c1 := B.bound_pos (rng := st.R) (p := x) j4 hp.1
    have c2 := B.bound_lt (rng := st.R) (p := x) j4
    have hc2 := ho.cut (B.bound st.R x) bit c1 c2
    have fin : ∀ (e' : R.E) (st' : R.S) (w : World), R.Rep e' st' → e'.rng < 4294967296 → st'.k = st.k → st'.widen = st.cut (B.bound st.R x) bit → Sat E w (EncE b e' :: PSet p l :: M) →
        pN Tryd.prog (oCall 86 [.pointer (some ⟨b, 0, none⟩)]) w fun _ w29 => pN Tryd.prog (oCall 87 [.pointer (some ⟨p, 0, none⟩), .int .i64 i, .int .i64 bit]) w29 fun x54 w30 => Q x54 w30 := by
      intro e' st' w h1 h2 h3 h4 hS
      refine pc_rcenc_Encoder_widen (widen_ok hS h1 h2 (by omega) fun e'' w hr' hS => ?_)
      rw [h4] at hr'
      refine pc_prob_Set_Turn (Turn_ok (hS.fd (PSet p)) i bit fun w hS => ?_)
      simp only [if_pos h] at hS ⊢
      have e : l.getD i.toNat 0 = x := by rw [List.getD_eq_getElem?_getD, hx]; rfl
      rw [e] at hS
      exact hQ _ (Enc.shut (hS.fd (EncE b)) hr' hc2)
    repeat' (first | (refine pN_neq_s ?_ ?_ <;> intro hc <;> try (exfalso; first | omega | exact hc rfl | exact hc (by assumption) | exact absurd hc (by assumption))) | refine pIf_f ?_ | refine pN_l hS (by first | rfl | assumption) ?_ | refine pN_via (by (intro K; simp (disch := omega) only [go_sem, pN_min, pN_max, w_u32, w_u64, Option.isNone_some, Option.isNone_none]; (try simp only [wrap_u32, wrap_u64]); rfl)) ?_ | fail)
    refine pc_prob_Bound (Bound_ok _ x (by omega) (by omega) ?_)
    rw [j1]
    rw [j1] at hS
    repeat' (first | (refine pN_eql_s ?_ ?_ <;> intro hc <;> try (exfalso; first | omega | exact hc rfl | exact hc (by assumption) | exact absurd hc (by assumption))) | refine pIf_t ?_ | refine pIf_f ?_ | refine pN_l hS (by first | rfl | assumption) ?_ | (refine pN_s hS (by first | exact Nat.le_of_ble_eq_true rfl | assumption) (by rfl) ?_; clear hS; intro w hS; try simp only [List.set_cons_zero, List.set_cons_succ] at hS) | refine pN_via (by (intro K; simp (disch := omega) only [go_sem, pN_min, pN_max, w_u32, w_u64, Option.isNone_some, Option.isNone_none]; (try simp only [wrap_u32, wrap_u64]); rfl)) ?_ | refine ⟨_, ?_, fun _ _ h => h⟩ | fail)
    · refine fin { e with rng := B.bound st.R x } ⟨st.N, B.bound st.R x, st.k⟩ _ ⟨⟨j2, c1, by simp only; omega, fun hh => ?_⟩, hr.val, rfl, hr.len⟩ (by simp only; omega) rfl (by rw [R.S.cut, if_pos hc]) (EncE.shut (b := b) (s := s) hS _ rfl rfl)
      have := hr.inv.held hh
      simp only
      omega
    · refine fin { e with low := e.low + B.bound st.R x, rng := st.R - B.bound st.R x } ⟨st.N + B.bound st.R x, st.R - B.bound st.R x, st.k⟩ _ ⟨⟨by simp only; omega, by simp only; omega, by simp only; omega, fun hh => ?_⟩, ?_, rfl, hr.len⟩ (by simp only; omega) rfl (by rw [R.S.cut, if_neg hc]) (EncE.shut (b := b) (s := s) hS _ rfl rfl)
      · have := hr.inv.held hh
        simp only
        omega
      · have := hr.val
        simp only [R.E.V] at this ⊢
        omega
  · simp only [if_neg h] at hQ ⊢
    repeat' (first | (refine pN_neq_s ?_ ?_ <;> intro hc <;> try (exfalso; first | omega | exact hc rfl | exact hc (by assumption) | exact absurd hc (by assumption))) | refine pIf_t ?_ | refine pN_via (by (intro K; simp (disch := omega) only [go_sem, pN_min, pN_max, w_u32, w_u64, Option.isNone_some, Option.isNone_none]; (try simp only [wrap_u32, wrap_u64]); rfl)) ?_ | fail)
    exact hQ _ hS.to

theorem Direct_ok (hS : Sat E w (Enc b st :: M)) (hk : st.k + 50 ≤ 140737488355328) (v n : Int) (v0 : 0 ≤ v) (v1 : v < 4294967296)
    (hQ : ∀ w, Sat E w (Enc b (if 0 ≤ n ∧ n ≤ 32 then st.direct v n.toNat else st) :: M) → Q (.int .i64 (if 0 ≤ n ∧ n ≤ 32 then 0 else 7)) w) :
    Calls Tryd.prog 81 #[.pointer (some ⟨b, 0, none⟩), .int .u32 v, .int .i64 n] w (retP Q) := by
  refine rcenc_Encoder_Direct.calls ?_
  unfold rcenc_Encoder_Direct.F
  by_cases h : 0 ≤ n ∧ n ≤ 32
  · simp only [if_pos h] at hQ
    repeat' (first | ((first | refine pN_lss_s ?_ ?_ | refine pN_gtr_s ?_ ?_) <;> intro hc <;> try (exfalso; omega)) | refine pIf_f ?_ | refine pGd_go (by rfl) ?_ | refine pN_via (by (intro K; simp (disch := omega) only [go_sem, pN_min, pN_max, w_u32, w_u64, Option.isNone_some, Option.isNone_none]; (try simp only [wrap_u32, wrap_u64]); rfl)) ?_ | fail)
    refine ⟨fun x w => ∃ (m : Nat) (st' : R.S), x = .int .i64 ((m : Int) - 1) ∧ m ≤ n.toNat ∧ st'.direct v m = st.direct v n.toNat ∧ st'.k + m ≤ st.k + n.toNat ∧ Sat E w (Enc b st' :: M), fun x _ => (RowKit.intOf x + 1).toNat,
      ⟨n.toNat, st, by rw [Int.toNat_of_nonneg h.1], Nat.le_refl _, rfl, Nat.le_refl _, hS⟩, ?_⟩
    clear hS
    rintro _ _ w ⟨m, st', rfl, hm, hd, hk', hS⟩
    obtain ⟨e, hr, ho, hS⟩ := Enc.opn hS
    obtain ⟨s, hS⟩ := EncE.opn hS
    have j1 := hr.rng
    have j2 := hr.inv.l0
    have j3 := hr.inv.sum
    have j4 := ho.r0
    have j5 := ho.r1
    rw [j1] at hS
    repeat' (first | (refine pN_geq_s ?_ ?_ <;> intro hc <;> try (exfalso; omega)) | refine pIf_t ?_ | refine pIf_f ?_ | refine pN_l hS (by first | rfl | assumption) ?_ | (refine pN_s hS (by first | exact Nat.le_of_ble_eq_true rfl | assumption) (by rfl) ?_; clear hS; intro w hS; try simp only [List.set_cons_zero, List.set_cons_succ] at hS) | refine pN_via (by (intro K; simp (disch := omega) only [go_sem, pN_min, pN_max, w_u32, w_u64, Option.isNone_some, Option.isNone_none]; (try simp only [wrap_u32, wrap_u64]); rfl)) ?_ | refine ⟨_, ?_, fun _ _ h => h⟩ | fail)
    · obtain ⟨j, rfl⟩ : ∃ j, m = j + 1 := ⟨m - 1, by omega⟩
      refine pN_shr_k j (by omega) (by show _ ≤ 32; omega) ?_
      have hkk := R.one_k ho (v / 2 ^ j % 2)
      have hoo := ho.one (v / 2 ^ j % 2)
      repeat' (first | (refine pN_eql_s ?_ ?_ <;> intro hc <;> try (exfalso; first | omega | exact hc rfl | exact hc (by assumption) | exact absurd hc (by assumption))) | refine pIf_t ?_ | refine pIf_f ?_ | refine pL_l hS (by first | rfl | assumption) ?_ | (refine pN_s hS (by first | exact Nat.le_of_ble_eq_true rfl | assumption) (by rfl) ?_; clear hS; intro w hS; try simp only [List.set_cons_zero, List.set_cons_succ] at hS) | (refine pDr_go hS ?_; clear hS; intro w hS) | refine ⟨trivial, ?_⟩ | refine pN_via (by (intro K; simp (disch := omega) only [go_sem, pN_min, pN_max, w_u32, w_u64, Option.isNone_some, Option.isNone_none]; (try simp only [wrap_u32, wrap_u64]); rfl)) ?_ | refine pA_via (by (intro K; simp (disch := omega) only [go_sem, pN_min, pN_max, w_u32, w_u64, Option.isNone_some, Option.isNone_none]; (try simp only [wrap_u32, wrap_u64]); rfl)) ?_ | refine pL_via (by (intro K; simp (disch := omega) only [go_sem, pN_min, pN_max, w_u32, w_u64, Option.isNone_some, Option.isNone_none]; (try simp only [wrap_u32, wrap_u64]); rfl)) ?_ | fail)
      · have hS := EncE.shut (b := b) (s := s) hS { e with low := e.low + st'.R / 2, rng := st'.R / 2 } rfl rfl
        refine pc_rcenc_Encoder_widen (widen_ok (st := ⟨st'.N + st'.R / 2, st'.R / 2, st'.k⟩) hS ⟨⟨by simp only; omega, by simp only; omega, by simp only; omega, fun hh => ?_⟩, ?_, rfl, hr.len⟩ (by simp only; omega) (by simp only; omega) fun e' w hr' hS => ?_)
        · have := hr.inv.held hh
          simp only
          omega
        · have := hr.val
          simp only [R.E.V] at this ⊢
          omega
        · have e1 : R.S.widen ⟨st'.N + st'.R / 2, st'.R / 2, st'.k⟩ = st'.one (v / 2 ^ j % 2) := by rw [R.S.one, if_pos hc]
          rw [e1] at hr'
          repeat' (first | refine pN_via (by (intro K; simp (disch := omega) only [go_sem, pN_min, pN_max, w_u32, w_u64, Option.isNone_some, Option.isNone_none]; (try simp only [wrap_u32, wrap_u64]); rfl)) ?_ | fail)
          exact ⟨⟨j, _, by congr 1; omega, by omega, hd, by omega, Enc.shut hS hr' hoo⟩, by simp [RowKit.intOf] <;> omega⟩
      · have hS := EncE.shut (b := b) (s := s) hS { e with rng := st'.R / 2 } rfl rfl
        refine pc_rcenc_Encoder_widen (widen_ok (st := ⟨st'.N, st'.R / 2, st'.k⟩) hS ⟨⟨j2, by simp only; omega, by simp only; omega, fun hh => ?_⟩, hr.val, rfl, hr.len⟩ (by simp only; omega) (by simp only; omega) fun e' w hr' hS => ?_)
        · have := hr.inv.held hh
          simp only
          omega
        · have e1 : R.S.widen ⟨st'.N, st'.R / 2, st'.k⟩ = st'.one (v / 2 ^ j % 2) := by rw [R.S.one, if_neg hc]
          rw [e1] at hr'
          repeat' (first | refine pN_via (by (intro K; simp (disch := omega) only [go_sem, pN_min, pN_max, w_u32, w_u64, Option.isNone_some, Option.isNone_none]; (try simp only [wrap_u32, wrap_u64]); rfl)) ?_ | fail)
          exact ⟨⟨j, _, by congr 1; omega, by omega, hd, by omega, Enc.shut hS hr' hoo⟩, by simp [RowKit.intOf] <;> omega⟩
    · obtain rfl : m = 0 := by omega
      rw [← hd] at hQ
      refine hQ _ (Enc.shut (EncE.shut (b := b) (s := s) hS e ?_ rfl) hr ho)
      rw [j1]
  · simp only [if_neg h] at hQ
    repeat' (first | ((first | refine pN_lss_s ?_ ?_ | refine pN_gtr_s ?_ ?_) <;> intro hc <;> try (exfalso; omega)) | refine pIf_t ?_ | refine pGd_go (by rfl) ?_ | refine pGd_no (by rfl) ?_ | refine pN_via (by (intro K; simp (disch := omega) only [go_sem, pN_min, pN_max, w_u32, w_u64, Option.isNone_some, Option.isNone_none]; (try simp only [wrap_u32, wrap_u64]); rfl)) ?_ | fail)
    all_goals exact hQ _ hS

theorem Bit_in {p : Nat} {l : List Int} (hS : Sat E w (Enc b st :: PSet p l :: M)) (hf : B.Fine l) (hk : st.k + 10 ≤ 140737488355328) (i bit : Int) {x : Int} (h0 : 0 ≤ i) (hx : l[i.toNat]? = some x)
    (hQ : ∀ w, Sat E w (Enc b (st.cut (B.bound st.R x) bit) :: PSet p (l.set i.toNat (B.next x bit)) :: M) → Q (.int .i64 0) w) :
    Calls Tryd.prog 80 #[.pointer (some ⟨b, 0, none⟩), .pointer (some ⟨p, 0, none⟩), .int .i64 i, .int .i64 bit] w (retP Q) := by
  have hlt : i.toNat < l.length := (List.getElem?_eq_some_iff.1 hx).1
  refine Bit_ok hS hf hk i bit fun w hS => ?_
  have e : l.getD i.toNat 0 = x := by rw [List.getD_eq_getElem?_getD, hx]; rfl
  rw [if_pos (by omega), if_pos (by omega), e] at hS
  rw [if_pos (by omega)]
  exact hQ w hS
theorem Bit_no {p : Nat} {l : List Int} (hS : Sat E w (Enc b st :: PSet p l :: M)) (hf : B.Fine l) (hk : st.k + 10 ≤ 140737488355328) (i bit : Int) (h : ¬ (0 ≤ i ∧ i < l.length))
    (hQ : ∀ w, Sat E w (Enc b st :: PSet p l :: M) → Q (.int .i64 7) w) :
    Calls Tryd.prog 80 #[.pointer (some ⟨b, 0, none⟩), .pointer (some ⟨p, 0, none⟩), .int .i64 i, .int .i64 bit] w (retP Q) := by
  refine Bit_ok hS hf hk i bit fun w hS => ?_
  rw [if_neg h, if_neg h] at hS
  rw [if_neg h]
  exact hQ w hS
theorem Direct_in (hS : Sat E w (Enc b st :: M)) (hk : st.k + 50 ≤ 140737488355328) (v : Int) (n : Nat) (v0 : 0 ≤ v) (v1 : v < 4294967296) (hn : n ≤ 32)
    (hQ : ∀ w, Sat E w (Enc b (st.direct v n) :: M) → Q (.int .i64 0) w) :
    Calls Tryd.prog 81 #[.pointer (some ⟨b, 0, none⟩), .int .u32 v, .int .i64 n] w (retP Q) := by
  refine Direct_ok hS hk v n v0 v1 fun w hS => ?_
  rw [if_pos (by omega), Int.toNat_natCast] at hS
  rw [if_pos (by omega)]
  exact hQ w hS
theorem Direct_no (hS : Sat E w (Enc b st :: M)) (hk : st.k + 50 ≤ 140737488355328) (v n : Int) (v0 : 0 ≤ v) (v1 : v < 4294967296) (h : ¬ (0 ≤ n ∧ n ≤ 32))
    (hQ : ∀ w, Sat E w (Enc b st :: M) → Q (.int .i64 7) w) :
    Calls Tryd.prog 81 #[.pointer (some ⟨b, 0, none⟩), .int .u32 v, .int .i64 n] w (retP Q) := by
  refine Direct_ok hS hk v n v0 v1 fun w hS => ?_
  rw [if_neg h] at hS
  rw [if_neg h]
  exact hQ w hS

theorem Size_ok (hS : Sat E w (Enc b st :: M)) (hk : st.k ≤ 140737488355328) (hQ : ∀ w, Sat E w (Enc b st :: M) → Q (.int .i64 (st.k + 5 : Nat)) w) :
    Calls Tryd.prog 19 #[.pointer (some ⟨b, 0, none⟩)] w (retP Q) := by
  refine rcenc_Encoder_Size.calls ?_
  unfold rcenc_Encoder_Size.F
  obtain ⟨e, hr, ho, hS⟩ := Enc.opn hS
  obtain ⟨s, hS⟩ := EncE.opn hS
  have j := hr.len
  repeat' (first | refine pL_l hS (by first | rfl | assumption) ?_ | (refine pDr_go hS ?_; clear hS; intro w hS) | refine pA_via (by (intro K; simp (disch := omega) only [go_sem, pN_min, pN_max, w_u32, w_u64, Option.isNone_some, Option.isNone_none]; (try simp only [wrap_u32, wrap_u64]); rfl)) ?_ | fail)
  have e1 : ((e.out.length : Int) + 1 + (e.wait : Int) + 4) = ((st.k + 5 : Nat) : Int) := by omega
  rw [e1]
  exact hQ _ (Enc.shut (EncE.shut (b := b) (s := s) hS e rfl rfl) hr ho)

theorem ForkE_ok (hS : Sat E w (EncE b e :: M)) (hk : e.out.length + e.wait + 8 ≤ 140737488355328) (hQ : ∀ c w, Sat E w (EncE c e :: EncE b e :: M) → Q (.pointer (some ⟨c, 0, none⟩)) w) :
    Calls Tryd.prog 26 #[.pointer (some ⟨b, 0, none⟩)] w (retP Q) := by
  refine rcenc_Encoder_Fork.calls ?_
  unfold rcenc_Encoder_Fork.F
  obtain ⟨s0, hS⟩ := EncE.opn hS
  repeat' (first | refine pL_l hS (by first | rfl | assumption) ?_ | refine pN_la hS (by rfl) ?_ | (refine pN_s hS (by first | exact Nat.le_of_ble_eq_true rfl | assumption) (by rfl) ?_; clear hS; intro w hS; try simp only [List.set_cons_zero, List.set_cons_succ] at hS) | (refine pN_sa hS (by rfl) (by rfl) (by rfl) ?_; clear hS; intro w hS; try dsimp only at hS) | (refine pDr_go hS ?_; clear hS; intro w hS) | (refine pN_nz hS ?_; clear hS; intro a w hS) | refine ⟨trivial, ?_⟩ | refine ⟨⟨(by first | exact run_l hS (by first | rfl | assumption) | exact run_st hS (by first | rfl | omega) | exact run_ld1 ha hS | exact fun _ => run_l hS (by rfl) | exact fun _ => run_st hS (by first | rfl | omega) | exact fun _ => run_ld1 ha hS | exact fun h => Bool.noConfusion h), trivial⟩, ?_⟩ | (refine pN_app hS (by first | rfl | omega | simpa only [go_sem] using True.intro | (simp only [go_sem]; omega)) (by first | rfl | omega | simpa only [go_sem] using True.intro | (simp only [go_sem]; omega)) (by first | omega | (simp only [go_sem]; omega)) ?_; clear hS; intro s w hS) | (refine pN_mk0 hS _ (by first | rfl | (exact (Int.toNat_of_nonneg (by omega)).symm)) (by first | omega | (simp only [go_sem]; omega)) ?_; clear hS; intro s w hS) | refine pN_via (by (intro K; simp (disch := omega) only [go_sem, pN_min, pN_max, w_u32, w_u64, Option.isNone_some, Option.isNone_none]; (try simp only [wrap_u32, wrap_u64]); rfl)) ?_ | refine pA_via (by (intro K; simp (disch := omega) only [go_sem, pN_min, pN_max, w_u32, w_u64, Option.isNone_some, Option.isNone_none]; (try simp only [wrap_u32, wrap_u64]); rfl)) ?_ | fail)
  exact hQ _ _ (EncE.shut (b := a) (s := s) (EncE.shut (b := b) (s := s0) hS e rfl rfl) e rfl rfl)

theorem Fork_ok' (hS : Sat E w (Enc b st :: M)) (hk : st.k + 8 ≤ 140737488355328) (hQ : ∀ c w, Sat E w (Enc c st :: Enc b st :: M) → Q (.pointer (some ⟨c, 0, none⟩)) w) :
    Calls Tryd.prog 26 #[.pointer (some ⟨b, 0, none⟩)] w (retP Q) := by
  obtain ⟨e, hr, ho, hS⟩ := Enc.opn hS
  have j := hr.len
  refine ForkE_ok hS (by omega) fun c w hS => hQ c w ?_
  exact (Enc.shut ((Enc.shut hS hr ho).fd (EncE b)) hr ho).to

theorem Bytes_ok (hS : Sat E w (Enc b st :: M)) (hk : st.k + 18 ≤ 140737488355328) (hQ : ∀ s w, Sat E w (rows cd_uint8 s st.bytes :: Enc b st :: M) → Q (.slice s.a st.bytes.length s.c) w) :
    Calls Tryd.prog 23 #[.pointer (some ⟨b, 0, none⟩)] w (retP Q) := by
  refine rcenc_Encoder_Bytes.calls ?_
  unfold rcenc_Encoder_Bytes.F
  obtain ⟨e, hr, ho, hS⟩ := Enc.opn hS
  have j := hr.len
  have j1 := hr.rng
  have j2 := ho.r1
  refine pc_rcenc_Encoder_Fork (ForkE_ok hS (by omega) fun c w hS => ?_)
  have hS := Enc.shut (hS.fd (EncE b)) hr ho
  refine ⟨fun x w => ∃ (m : Nat) (e' : R.E) (st' : R.S), x = .int .i64 m ∧ m ≤ 5 ∧ R.Rep e' st' ∧ e'.rng < 4294967296 ∧ st'.k = st.k + m ∧ e.shifts m = e' ∧ Sat E w (EncE c e' :: Enc b st :: M), fun x _ => 5 - (RowKit.intOf x).toNat,
    ⟨0, e, st, rfl, by omega, hr, by omega, rfl, rfl, hS.to⟩, ?_⟩
  clear hS
  rintro _ _ w ⟨m, e', st', rfl, hm, hr', h1, h2, h3, hS⟩
  have k1 := hr'.inv.l0
  have k2 := hr'.inv.sum
  have k3 := hr'.inv.r0
  have k4 := hr'.len
  repeat' (first | (refine pN_lss_s ?_ ?_ <;> intro hc <;> try (exfalso; omega)) | refine pIf_t ?_ | refine pIf_f ?_ | refine pN_via (by (intro K; simp (disch := omega) only [go_sem, pN_min, pN_max, w_u32, w_u64, Option.isNone_some, Option.isNone_none]; (try simp only [wrap_u32, wrap_u64]); rfl)) ?_ | fail)
  · refine pc_rcenc_Encoder_shift (shift_ok hS k1 (by omega) (by omega) fun w hS => ?_)
    repeat' (first | refine pN_via (by (intro K; simp (disch := omega) only [go_sem, pN_min, pN_max, w_u32, w_u64, Option.isNone_some, Option.isNone_none]; (try simp only [wrap_u32, wrap_u64]); rfl)) ?_ | fail)
    refine ⟨⟨m + 1, _, _, rfl, by omega, hr'.shift0 h1, by rw [R.shift_rng]; exact h1, by simp only; omega, ?_, hS⟩, by simp [RowKit.intOf] <;> omega⟩
    rw [R.E.shifts, h3]
  · obtain rfl : m = 5 := by omega
    have hb := (hr.bytes (by omega)).1
    have e1 : e.shifts 5 = e.shift.shift.shift.shift.shift := rfl
    rw [← e1, h3] at hb
    obtain ⟨s, hS⟩ := EncE.opn hS
    repeat' (first | refine pN_l hS (by first | rfl | assumption) ?_ | fail)
    rw [hb] at hS ⊢
    exact hQ _ _ hS.to
end

end Go.Proofs.YtbgnnjfpiblkmaaDoor
