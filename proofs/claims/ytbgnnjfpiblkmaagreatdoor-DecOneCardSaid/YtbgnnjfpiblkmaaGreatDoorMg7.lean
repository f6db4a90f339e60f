/-
  Texts of one proof, one behind the other: Rcenc, Tree, LzCode, LzSym, LzSym2, LzSink, Lz, ZDec, ZRdQ, TreeGet, LzRd.
-/
import Derived.Test.YtbgnnjfpiblkmaaGreatDoorMg6
namespace Go.Proofs.YtbgnnjfpiblkmaaGreatDoor
open Go
set_option linter.unusedSimpArgs false
set_option linter.unnecessarySimpa false
set_option linter.unusedSectionVars false
set_option linter.unusedVariables false
attribute [local irreducible] oMv oV oU oCall oCallV oBi oBin oUn oLoad oStore oNil oFld oField oIdx oIndex oPick oAlloc oBox oBuild oBs oConv oMk oSl oExt oFn oIface oMap oLook oMapUp oRange oNext oEntry oInv oAssert oPanic oRes pN pA pL pDr pIf gA pGd

def EncE (b : Nat) (e : R.E) : HA := fun h => ∃ s : Sl, Sats [cel b ⟨190, [.int .u64 e.low, .int .u32 e.rng, bv e.held, .int .i64 e.wait, .slice s.a e.out.length s.c]⟩, rows cd_uint8 s e.out] h
def Enc (b : Nat) (s : R.S) : HA := fun h => ∃ e : R.E, R.Rep e s ∧ R.Ok s ∧ EncE b e h

section
variable {E w : World} {M : List HA} {Q : Value → World → Prop} {b : Nat} {e : R.E} {st : R.S}

theorem EncE.opn (hS : Sat E w (EncE b e :: M)) : ∃ s : Sl, Sat E w (cel b ⟨190, [.int .u64 e.low, .int .u32 e.rng, bv e.held, .int .i64 e.wait, .slice s.a e.out.length s.c]⟩ :: rows cd_uint8 s e.out :: M) := by
  obtain ⟨s, hS⟩ := hS.ex
  exact ⟨s, hS.open_ (M := [_, _]) fun _ h => h⟩
theorem EncE.shut {s : Sl} {L N : List HA} {o : Ob} {out : List UInt8} (hS : Sat E w L) (e : R.E) [h1 : Fnd (cel b) L o N] [h2 : Fnd (rows cd_uint8 s) N out M] (ho : o = ⟨190, [.int .u64 e.low, .int .u32 e.rng, bv e.held, .int .i64 e.wait, .slice s.a e.out.length s.c]⟩) (he : out = e.out) : Sat E w (EncE b e :: M) := by
  subst ho he
  exact Sat.shut (M := [_, _]) (hS.fd2 (cel b) (rows cd_uint8 s)) fun _ h => ⟨s, h⟩
theorem Enc.opn (hS : Sat E w (Enc b st :: M)) : ∃ e, R.Rep e st ∧ R.Ok st ∧ Sat E w (EncE b e :: M) := by
  obtain ⟨e, ⟨h1, h2⟩, hS⟩ := hS.opn (p := fun e => R.Rep e st ∧ R.Ok st) (B := fun e => EncE b e) fun hp ⟨e, h1, h2, h3⟩ => ⟨e, ⟨h1, h2⟩, h3⟩
  exact ⟨e, h1, h2, hS⟩
theorem Enc.shut (hS : Sat E w (EncE b e :: M)) (h1 : R.Rep e st) (h2 : R.Ok st) : Sat E w (Enc b st :: M) := hS.weaken fun _ h => ⟨e, h1, h2, h⟩

theorem shift_ok (hS : Sat E w (EncE b e :: M)) (i1 : 0 ≤ e.low) (i2 : e.low < 8589934592) (hl : e.out.length + e.wait + 1 ≤ 140737488355328) (hQ : ∀ w, Sat E w (EncE b e.shift :: M) → Q (.tuple #[]) w) : Calls Tryz.prog 125 #[.pointer (some ⟨b, 0, none⟩)] w (retP Q) := by
  refine rcenc_Encoder_shift.calls ?_
  unfold rcenc_Encoder_shift.F
  obtain ⟨s, hS⟩ := EncE.opn hS
  refine ⟨_, ?_, fun _ _ h => h⟩
  repeat' (first | ((first | refine pN_lss_s ?_ ?_ | refine pN_gtr_s ?_ ?_) <;> intro hc <;> try (exfalso; omega)) | refine pIf_t ?_ | refine pIf_f ?_ | refine pGd_go (by rfl) ?_ | refine pGd_no (by rfl) ?_ | refine pN_tob ?_ | refine pN_l hS (by first | rfl | assumption) ?_ | refine pL_l hS (by first | rfl | assumption) ?_ | (refine pN_s hS (by first | exact Nat.le_of_ble_eq_true rfl | assumption) (by rfl) ?_; clear hS; intro w hS; try simp only [List.set_cons_zero, List.set_cons_succ] at hS) | (refine pDr_go hS ?_; clear hS; intro w hS) | refine ⟨trivial, ?_⟩ | refine ⟨⟨(by first | exact run_l hS (by first | rfl | assumption) | exact run_st hS (by first | rfl | omega) | exact run_ld1 ha hS | exact fun _ => run_l hS (by rfl) | exact fun _ => run_st hS (by first | rfl | omega) | exact fun _ => run_ld1 ha hS | exact fun h => Bool.noConfusion h), trivial⟩, ?_⟩ | (refine pN_b1 hS (by rfl) (by decide) ?_; clear hS; intro s w hS) | (refine pN_app hS (by first | rfl | omega | simpa only [go_sem] using True.intro | (simp only [go_sem]; omega)) (by first | rfl | omega | simpa only [go_sem] using True.intro | (simp only [go_sem]; omega)) (by first | omega | (simp only [go_sem]; omega)) ?_; clear hS; intro s w hS) | refine pN_via (by (intro K; simp (disch := omega) only [go_sem, pN_min, pN_max, w_u32, w_u64, Option.isNone_some, Option.isNone_none]; (try simp only [wrap_u32, wrap_u64]); rfl)) ?_ | refine pA_via (by (intro K; simp (disch := omega) only [go_sem, pN_min, pN_max, w_u32, w_u64, Option.isNone_some, Option.isNone_none]; (try simp only [wrap_u32, wrap_u64]); rfl)) ?_ | fail)
  rotate_left 2
  · refine hQ _ ?_
    unfold R.E.shift
    rw [if_neg (by omega)]
    exact EncE.shut (b := b) (s := s) hS _ rfl rfl
  all_goals
    refine ⟨fun w => ∃ (j : Nat) (s : Sl), j ≤ e.wait ∧ Sat E w (cel b ⟨190, [.int .u64 e.low, .int .u32 e.rng, bv e.held, .int .i64 (e.wait - j : Nat), .slice s.a (e.out ++ [e.held + byteOf (e.low / 4294967296)] ++ List.replicate j (255 + byteOf (e.low / 4294967296))).length s.c]⟩ :: rows cd_uint8 s (e.out ++ [e.held + byteOf (e.low / 4294967296)] ++ List.replicate j (255 + byteOf (e.low / 4294967296))) :: M),
      fun w => wInt b 3 w, ⟨0, s, Nat.zero_le _, by simp only [List.replicate_zero, List.append_nil]; exact hS.to⟩, ?_⟩
    clear hS
    rintro _ w ⟨j, s, hj, hS⟩
    have hm := wInt_eq (b := b) (i := 3) hS rfl
    repeat' (first | (refine pN_gtr_s ?_ ?_ <;> intro hc <;> try (exfalso; omega)) | refine pIf_t ?_ | refine pIf_f ?_ | refine pN_tob ?_ | refine pN_l hS (by first | rfl | assumption) ?_ | (refine pN_s hS (by first | exact Nat.le_of_ble_eq_true rfl | assumption) (by rfl) ?_; clear hS; intro w hS; try simp only [List.set_cons_zero, List.set_cons_succ] at hS) | (refine pN_b1 hS (by rfl) (by decide) ?_; clear hS; intro s w hS) | (refine pN_app hS (by first | rfl | omega | simpa only [go_sem] using True.intro | (simp only [go_sem]; omega)) (by first | rfl | omega | simpa only [go_sem] using True.intro | (simp only [go_sem]; omega)) (by first | omega | (simp only [go_sem]; omega)) ?_; clear hS; intro s w hS) | refine pN_via (by (intro K; simp (disch := omega) only [go_sem, pN_min, pN_max, w_u32, w_u64, Option.isNone_some, Option.isNone_none]; (try simp only [wrap_u32, wrap_u64]); rfl)) ?_ | fail)
    · refine ⟨⟨j + 1, s, by omega, ?_⟩, ?_⟩
      · have e1 : ((e.wait - (j + 1) : Nat) : Int) = ((e.wait - j : Nat) : Int) - 1 := by omega
        rw [List.replicate_succ', ← List.append_assoc _ (List.replicate _ _), e1]
        exact hS.to
      · show wInt b 3 _ < wInt b 3 _
        rw [hm, wInt_eq (b := b) (i := 3) hS rfl]
        omega
    · refine hQ _ ?_
      unfold R.E.shift
      rw [if_pos (by omega)]
      obtain rfl : j = e.wait := by omega
      exact EncE.shut (b := b) (s := s) hS _ (by simp) rfl

theorem widen_ok (hS : Sat E w (EncE b e :: M)) (hi : R.Rep e st) (h1 : e.rng < 4294967296) (hl : st.k + 10 ≤ 140737488355328) (hQ : ∀ e' w, R.Rep e' st.widen → Sat E w (EncE b e' :: M) → Q (.tuple #[]) w) : Calls Tryz.prog 250 #[.pointer (some ⟨b, 0, none⟩)] w (retP Q) := by
  refine rcenc_Encoder_widen.calls ?_
  unfold rcenc_Encoder_widen.F
  have i0 := hi.inv.r0
  have j0 := hi.rng
  refine ⟨fun w => ∃ (e' : R.E) (st' : R.S), R.Rep e' st' ∧ st'.widen = st.widen ∧ e'.rng < 4294967296 ∧ st'.k ≤ st'.widen.k ∧ Sat E w (EncE b e' :: M), fun w => 16777216 - wInt b 1 w, ⟨e, st, hi, rfl, h1, R.widen_mono st, hS⟩, ?_⟩
  clear hS
  rintro _ w ⟨e', st', hr, hw, h2, hk, hS⟩
  obtain ⟨s, hS⟩ := EncE.opn hS
  have i1 := hr.inv.l0
  have i2 := hr.inv.sum
  have i3 := hr.inv.r0
  have i4 := hr.rng
  have i5 := hr.len
  have i6 := (R.widen_k _ st rfl (by omega)).1
  rw [hw] at hk
  have hm := wInt_eq (b := b) (i := 1) hS rfl
  repeat' (first | (refine pN_lss_s ?_ ?_ <;> intro hc <;> try (exfalso; omega)) | refine pIf_t ?_ | refine pIf_f ?_ | refine pN_l hS (by first | rfl | assumption) ?_ | (refine pN_s hS (by first | exact Nat.le_of_ble_eq_true rfl | assumption) (by rfl) ?_; clear hS; intro w hS; try simp only [List.set_cons_zero, List.set_cons_succ] at hS) | refine pN_via (by (intro K; simp (disch := omega) only [go_sem, pN_min, pN_max, w_u32, w_u64, Option.isNone_some, Option.isNone_none]; (try simp only [wrap_u32, wrap_u64]); rfl)) ?_ | fail)
  · have hS := EncE.shut (b := b) (s := s) hS { e' with rng := e'.rng * 256 } rfl rfl
    refine pc_rcenc_Encoder_shift (shift_ok hS i1 (by simp only; omega) (by simp only; omega) fun w hS => ?_)
    rw [R.shift_with] at hS
    have hr' := hr.shift (e'.rng * 256) (by omega) (by omega) (by omega)
    refine ⟨⟨_, _, hr', ?_, by simp only; omega, R.widen_mono _, hS⟩, ?_⟩
    · rw [i4, ← R.S.widen_go (by omega) (by omega), hw]
    · obtain ⟨s, hS⟩ := EncE.opn hS
      show 16777216 - wInt b 1 _ < 16777216 - wInt b 1 _
      rw [hm, wInt_eq (b := b) (i := 1) hS rfl]
      simp only
      omega
  · rw [← hw, R.S.widen_no (by omega)] at hQ
    exact hQ _ _ hr (EncE.shut (b := b) (s := s) hS e' rfl rfl)

theorem NewE_ok (hS : Sat E w M) (hQ : ∀ b w, Sat E w (Enc b R.S.new :: M) → Q (.pointer (some ⟨b, 0, none⟩)) w) : Calls Tryz.prog 62 #[] w (retP Q) := by
  refine rcenc_New.calls ?_
  unfold rcenc_New.F
  repeat' (first | (refine pN_bx hS (by rfl) ?_; clear hS; intro a w hS) | refine pN_via (by (intro K; simp (disch := omega) only [go_sem, pN_min, pN_max, w_u32, w_u64, Option.isNone_some, Option.isNone_none]; (try simp only [wrap_u32, wrap_u64]); rfl)) ?_ | fail)
  have hS : Sat E w (rows cd_uint8 ⟨none, 0⟩ [] :: cel a _ :: M) := hS.nil 5 1
  exact hQ _ _ (Enc.shut (EncE.shut (b := a) (s := ⟨none, 0⟩) hS R.E.new rfl rfl) R.Rep.new R.Ok.new)

theorem Bit_ok {p : Nat} {l : List Int} (hS : Sat E w (Enc b st :: PSet p l :: M)) (hf : B.Fine l) (hk : st.k + 10 ≤ 140737488355328) (i bit : Int)
    (hQ : ∀ w, Sat E w (Enc b (if 0 ≤ i ∧ i < l.length then st.cut (B.bound st.R (l.getD i.toNat 0)) bit else st) :: PSet p (if 0 ≤ i ∧ i < l.length then l.set i.toNat (B.next (l.getD i.toNat 0) bit) else l) :: M) → Q (.int .i64 (if 0 ≤ i ∧ i < l.length then 0 else 7)) w) :
    Calls Tryz.prog 246 #[.pointer (some ⟨b, 0, none⟩), .pointer (some ⟨p, 0, none⟩), .int .i64 i, .int .i64 bit] w (retP Q) := by
  refine rcenc_Encoder_Bit.calls ?_
  unfold rcenc_Encoder_Bit.F
  refine pc_prob_Set_At (At_ok (hS.fd (PSet p)) i fun w hS => ?_)
  by_cases h : 0 ≤ i ∧ i < l.length
  · simp only [if_pos h] at hQ ⊢
    have hx : l[i.toNat]? = some (l.getD i.toNat 0) := by
      rw [List.getD_eq_getElem?_getD, List.getElem?_eq_getElem (show i.toNat < l.length by omega)]; rfl
    generalize l.getD i.toNat 0 = x at hQ hx ⊢
    have hp := hf.get hx
    obtain ⟨e, hr, ho, hS⟩ := Enc.opn (hS.fd (Enc b))
    obtain ⟨s, hS⟩ := EncE.opn hS
    have j1 := hr.rng
    have j2 := hr.inv.l0
    have j3 := hr.inv.sum
    have j4 := ho.r0
    have j5 := ho.r1
    have c1 := B.bound_pos (rng := st.R) (p := x) j4 hp.1
    have c2 := B.bound_lt (rng := st.R) (p := x) j4
    have hc2 := ho.cut (B.bound st.R x) bit c1 c2
    have fin : ∀ (e' : R.E) (st' : R.S) (w : World), R.Rep e' st' → e'.rng < 4294967296 → st'.k = st.k → st'.widen = st.cut (B.bound st.R x) bit → Sat E w (EncE b e' :: PSet p l :: M) →
        pN Tryz.prog (oCall 250 [.pointer (some ⟨b, 0, none⟩)]) w fun _ w29 => pN Tryz.prog (oCall 182 [.pointer (some ⟨p, 0, none⟩), .int .i64 i, .int .i64 bit]) w29 fun x54 w30 => Q x54 w30 := by
      intro e' st' w h1 h2 h3 h4 hS
      refine pc_rcenc_Encoder_widen (widen_ok hS h1 h2 (by omega) fun e'' w hr' hS => ?_)
      rw [h4] at hr'
      refine pc_prob_Set_Turn (Turn_ok (hS.fd (PSet p)) i bit fun w hS => ?_)
      simp only [if_pos h] at hS ⊢
      have e : l.getD i.toNat 0 = x := by rw [List.getD_eq_getElem?_getD, hx]; rfl
      rw [e] at hS
      exact hQ _ (Enc.shut (hS.fd (EncE b)) hr' hc2)
    repeat' (first | (refine pN_neq_s ?_ ?_ <;> intro hc <;> try (exfalso; first | omega | exact hc rfl | exact hc (by assumption) | exact absurd hc (by assumption))) | refine pIf_f ?_ | refine pN_l hS (by first | rfl | assumption) ?_ | refine pN_via (by (intro K; simp (disch := omega) only [go_sem, pN_min, pN_max, w_u32, w_u64, Option.isNone_some, Option.isNone_none]; (try simp only [wrap_u32, wrap_u64]); rfl)) ?_ | fail)
    refine pc_prob_Bound (Bound_ok _ x (by omega) (by omega) ?_)
    rw [j1]
    rw [j1] at hS
    repeat' (first | (refine pN_eql_s ?_ ?_ <;> intro hc <;> try (exfalso; first | omega | exact hc rfl | exact hc (by assumption) | exact absurd hc (by assumption))) | refine pIf_t ?_ | refine pIf_f ?_ | refine pN_l hS (by first | rfl | assumption) ?_ | (refine pN_s hS (by first | exact Nat.le_of_ble_eq_true rfl | assumption) (by rfl) ?_; clear hS; intro w hS; try simp only [List.set_cons_zero, List.set_cons_succ] at hS) | refine pN_via (by (intro K; simp (disch := omega) only [go_sem, pN_min, pN_max, w_u32, w_u64, Option.isNone_some, Option.isNone_none]; (try simp only [wrap_u32, wrap_u64]); rfl)) ?_ | refine ⟨_, ?_, fun _ _ h => h⟩ | fail)
    · refine fin { e with rng := B.bound st.R x } ⟨st.N, B.bound st.R x, st.k⟩ _ ⟨⟨j2, c1, by simp only; omega, fun hh => ?_⟩, hr.val, rfl, hr.len⟩ (by simp only; omega) rfl (by rw [R.S.cut, if_pos hc]) (EncE.shut (b := b) (s := s) hS _ rfl rfl)
      have := hr.inv.held hh
      simp only
      omega
    · refine fin { e with low := e.low + B.bound st.R x, rng := st.R - B.bound st.R x } ⟨st.N + B.bound st.R x, st.R - B.bound st.R x, st.k⟩ _ ⟨⟨by simp only; omega, by simp only; omega, by simp only; omega, fun hh => ?_⟩, ?_, rfl, hr.len⟩ (by simp only; omega) rfl (by rw [R.S.cut, if_neg hc]) (EncE.shut (b := b) (s := s) hS _ rfl rfl)
      · have := hr.inv.held hh
        simp only
        omega
      · have := hr.val
        simp only [R.E.V] at this ⊢
        omega
  · simp only [if_neg h] at hQ ⊢
    repeat' (first | (refine pN_neq_s ?_ ?_ <;> intro hc <;> try (exfalso; first | omega | exact hc rfl | exact hc (by assumption) | exact absurd hc (by assumption))) | refine pIf_t ?_ | refine pN_via (by (intro K; simp (disch := omega) only [go_sem, pN_min, pN_max, w_u32, w_u64, Option.isNone_some, Option.isNone_none]; (try simp only [wrap_u32, wrap_u64]); rfl)) ?_ | fail)
    exact hQ _ hS.to

theorem Direct_ok (hS : Sat E w (Enc b st :: M)) (hk : st.k + 50 ≤ 140737488355328) (v n : Int) (v0 : 0 ≤ v) (v1 : v < 4294967296)
    (hQ : ∀ w, Sat E w (Enc b (if 0 ≤ n ∧ n ≤ 32 then st.direct v n.toNat else st) :: M) → Q (.int .i64 (if 0 ≤ n ∧ n ≤ 32 then 0 else 7)) w) :
    Calls Tryz.prog 247 #[.pointer (some ⟨b, 0, none⟩), .int .u32 v, .int .i64 n] w (retP Q) := by
  refine rcenc_Encoder_Direct.calls ?_
  unfold rcenc_Encoder_Direct.F
  by_cases h : 0 ≤ n ∧ n ≤ 32
  · simp only [if_pos h] at hQ
    repeat' (first | ((first | refine pN_lss_s ?_ ?_ | refine pN_gtr_s ?_ ?_) <;> intro hc <;> try (exfalso; omega)) | refine pIf_f ?_ | refine pGd_go (by rfl) ?_ | refine pN_via (by (intro K; simp (disch := omega) only [go_sem, pN_min, pN_max, w_u32, w_u64, Option.isNone_some, Option.isNone_none]; (try simp only [wrap_u32, wrap_u64]); rfl)) ?_ | fail)
    refine ⟨fun x w => ∃ (m : Nat) (st' : R.S), x = .int .i64 ((m : Int) - 1) ∧ m ≤ n.toNat ∧ st'.direct v m = st.direct v n.toNat ∧ st'.k + m ≤ st.k + n.toNat ∧ Sat E w (Enc b st' :: M), fun x _ => (RowKit.intOf x + 1).toNat,
      ⟨n.toNat, st, by rw [Int.toNat_of_nonneg h.1], Nat.le_refl _, rfl, Nat.le_refl _, hS⟩, ?_⟩
    clear hS
    rintro _ _ w ⟨m, st', rfl, hm, hd, hk', hS⟩
    obtain ⟨e, hr, ho, hS⟩ := Enc.opn hS
    obtain ⟨s, hS⟩ := EncE.opn hS
    have j1 := hr.rng
    have j2 := hr.inv.l0
    have j3 := hr.inv.sum
    have j4 := ho.r0
    have j5 := ho.r1
    rw [j1] at hS
    repeat' (first | (refine pN_geq_s ?_ ?_ <;> intro hc <;> try (exfalso; omega)) | refine pIf_t ?_ | refine pIf_f ?_ | refine pN_l hS (by first | rfl | assumption) ?_ | (refine pN_s hS (by first | exact Nat.le_of_ble_eq_true rfl | assumption) (by rfl) ?_; clear hS; intro w hS; try simp only [List.set_cons_zero, List.set_cons_succ] at hS) | refine pN_via (by (intro K; simp (disch := omega) only [go_sem, pN_min, pN_max, w_u32, w_u64, Option.isNone_some, Option.isNone_none]; (try simp only [wrap_u32, wrap_u64]); rfl)) ?_ | refine ⟨_, ?_, fun _ _ h => h⟩ | fail)
    · obtain ⟨j, rfl⟩ : ∃ j, m = j + 1 := ⟨m - 1, by omega⟩
      refine pN_shr_k j (by omega) (by show _ ≤ 32; omega) ?_
      have hkk := R.one_k ho (v / 2 ^ j % 2)
      have hoo := ho.one (v / 2 ^ j % 2)
      repeat' (first | (refine pN_eql_s ?_ ?_ <;> intro hc <;> try (exfalso; first | omega | exact hc rfl | exact hc (by assumption) | exact absurd hc (by assumption))) | refine pIf_t ?_ | refine pIf_f ?_ | refine pL_l hS (by first | rfl | assumption) ?_ | (refine pN_s hS (by first | exact Nat.le_of_ble_eq_true rfl | assumption) (by rfl) ?_; clear hS; intro w hS; try simp only [List.set_cons_zero, List.set_cons_succ] at hS) | (refine pDr_go hS ?_; clear hS; intro w hS) | refine ⟨trivial, ?_⟩ | refine pN_via (by (intro K; simp (disch := omega) only [go_sem, pN_min, pN_max, w_u32, w_u64, Option.isNone_some, Option.isNone_none]; (try simp only [wrap_u32, wrap_u64]); rfl)) ?_ | refine pA_via (by (intro K; simp (disch := omega) only [go_sem, pN_min, pN_max, w_u32, w_u64, Option.isNone_some, Option.isNone_none]; (try simp only [wrap_u32, wrap_u64]); rfl)) ?_ | refine pL_via (by (intro K; simp (disch := omega) only [go_sem, pN_min, pN_max, w_u32, w_u64, Option.isNone_some, Option.isNone_none]; (try simp only [wrap_u32, wrap_u64]); rfl)) ?_ | fail)
      · have hS := EncE.shut (b := b) (s := s) hS { e with low := e.low + st'.R / 2, rng := st'.R / 2 } rfl rfl
        refine pc_rcenc_Encoder_widen (widen_ok (st := ⟨st'.N + st'.R / 2, st'.R / 2, st'.k⟩) hS ⟨⟨by simp only; omega, by simp only; omega, by simp only; omega, fun hh => ?_⟩, ?_, rfl, hr.len⟩ (by simp only; omega) (by simp only; omega) fun e' w hr' hS => ?_)
        · have := hr.inv.held hh
          simp only
          omega
        · have := hr.val
          simp only [R.E.V] at this ⊢
          omega
        · have e1 : R.S.widen ⟨st'.N + st'.R / 2, st'.R / 2, st'.k⟩ = st'.one (v / 2 ^ j % 2) := by rw [R.S.one, if_pos hc]
          rw [e1] at hr'
          repeat' (first | refine pN_via (by (intro K; simp (disch := omega) only [go_sem, pN_min, pN_max, w_u32, w_u64, Option.isNone_some, Option.isNone_none]; (try simp only [wrap_u32, wrap_u64]); rfl)) ?_ | fail)
          exact ⟨⟨j, _, by congr 1; omega, by omega, hd, by omega, Enc.shut hS hr' hoo⟩, by simp [RowKit.intOf] <;> omega⟩
      · have hS := EncE.shut (b := b) (s := s) hS { e with rng := st'.R / 2 } rfl rfl
        refine pc_rcenc_Encoder_widen (widen_ok (st := ⟨st'.N, st'.R / 2, st'.k⟩) hS ⟨⟨j2, by simp only; omega, by simp only; omega, fun hh => ?_⟩, hr.val, rfl, hr.len⟩ (by simp only; omega) (by simp only; omega) fun e' w hr' hS => ?_)
        · have := hr.inv.held hh
          simp only
          omega
        · have e1 : R.S.widen ⟨st'.N, st'.R / 2, st'.k⟩ = st'.one (v / 2 ^ j % 2) := by rw [R.S.one, if_neg hc]
          rw [e1] at hr'
          repeat' (first | refine pN_via (by (intro K; simp (disch := omega) only [go_sem, pN_min, pN_max, w_u32, w_u64, Option.isNone_some, Option.isNone_none]; (try simp only [wrap_u32, wrap_u64]); rfl)) ?_ | fail)
          exact ⟨⟨j, _, by congr 1; omega, by omega, hd, by omega, Enc.shut hS hr' hoo⟩, by simp [RowKit.intOf] <;> omega⟩
    · obtain rfl : m = 0 := by omega
      rw [← hd] at hQ
      refine hQ _ (Enc.shut (EncE.shut (b := b) (s := s) hS e ?_ rfl) hr ho)
      rw [j1]
  · simp only [if_neg h] at hQ
    repeat' (first | ((first | refine pN_lss_s ?_ ?_ | refine pN_gtr_s ?_ ?_) <;> intro hc <;> try (exfalso; omega)) | refine pIf_t ?_ | refine pGd_go (by rfl) ?_ | refine pGd_no (by rfl) ?_ | refine pN_via (by (intro K; simp (disch := omega) only [go_sem, pN_min, pN_max, w_u32, w_u64, Option.isNone_some, Option.isNone_none]; (try simp only [wrap_u32, wrap_u64]); rfl)) ?_ | fail)
    all_goals exact hQ _ hS

theorem Bit_in {p : Nat} {l : List Int} (hS : Sat E w (Enc b st :: PSet p l :: M)) (hf : B.Fine l) (hk : st.k + 10 ≤ 140737488355328) (i bit : Int) {x : Int} (h0 : 0 ≤ i) (hx : l[i.toNat]? = some x)
    (hQ : ∀ w, Sat E w (Enc b (st.cut (B.bound st.R x) bit) :: PSet p (l.set i.toNat (B.next x bit)) :: M) → Q (.int .i64 0) w) :
    Calls Tryz.prog 246 #[.pointer (some ⟨b, 0, none⟩), .pointer (some ⟨p, 0, none⟩), .int .i64 i, .int .i64 bit] w (retP Q) := by
  have hlt : i.toNat < l.length := (List.getElem?_eq_some_iff.1 hx).1
  refine Bit_ok hS hf hk i bit fun w hS => ?_
  have e : l.getD i.toNat 0 = x := by rw [List.getD_eq_getElem?_getD, hx]; rfl
  rw [if_pos (by omega), if_pos (by omega), e] at hS
  rw [if_pos (by omega)]
  exact hQ w hS
theorem Direct_in (hS : Sat E w (Enc b st :: M)) (hk : st.k + 50 ≤ 140737488355328) (v : Int) (n : Nat) (v0 : 0 ≤ v) (v1 : v < 4294967296) (hn : n ≤ 32)
    (hQ : ∀ w, Sat E w (Enc b (st.direct v n) :: M) → Q (.int .i64 0) w) :
    Calls Tryz.prog 247 #[.pointer (some ⟨b, 0, none⟩), .int .u32 v, .int .i64 n] w (retP Q) := by
  refine Direct_ok hS hk v n v0 v1 fun w hS => ?_
  rw [if_pos (by omega), Int.toNat_natCast] at hS
  rw [if_pos (by omega)]
  exact hQ w hS
theorem ForkE_ok (hS : Sat E w (EncE b e :: M)) (hk : e.out.length + e.wait + 8 ≤ 140737488355328) (hQ : ∀ c w, Sat E w (EncE c e :: EncE b e :: M) → Q (.pointer (some ⟨c, 0, none⟩)) w) :
    Calls Tryz.prog 82 #[.pointer (some ⟨b, 0, none⟩)] w (retP Q) := by
  refine rcenc_Encoder_Fork.calls ?_
  unfold rcenc_Encoder_Fork.F
  obtain ⟨s0, hS⟩ := EncE.opn hS
  repeat' (first | refine pL_l hS (by first | rfl | assumption) ?_ | refine pN_la hS (by rfl) ?_ | (refine pN_s hS (by first | exact Nat.le_of_ble_eq_true rfl | assumption) (by rfl) ?_; clear hS; intro w hS; try simp only [List.set_cons_zero, List.set_cons_succ] at hS) | (refine pN_sa hS (by rfl) (by rfl) (by rfl) ?_; clear hS; intro w hS; try dsimp only at hS) | (refine pDr_go hS ?_; clear hS; intro w hS) | (refine pN_nz hS ?_; clear hS; intro a w hS) | refine ⟨trivial, ?_⟩ | refine ⟨⟨(by first | exact run_l hS (by first | rfl | assumption) | exact run_st hS (by first | rfl | omega) | exact run_ld1 ha hS | exact fun _ => run_l hS (by rfl) | exact fun _ => run_st hS (by first | rfl | omega) | exact fun _ => run_ld1 ha hS | exact fun h => Bool.noConfusion h), trivial⟩, ?_⟩ | (refine pN_app hS (by first | rfl | omega | simpa only [go_sem] using True.intro | (simp only [go_sem]; omega)) (by first | rfl | omega | simpa only [go_sem] using True.intro | (simp only [go_sem]; omega)) (by first | omega | (simp only [go_sem]; omega)) ?_; clear hS; intro s w hS) | (refine pN_mk0 hS _ (by first | rfl | (exact (Int.toNat_of_nonneg (by omega)).symm)) (by first | omega | (simp only [go_sem]; omega)) ?_; clear hS; intro s w hS) | refine pN_via (by (intro K; simp (disch := omega) only [go_sem, pN_min, pN_max, w_u32, w_u64, Option.isNone_some, Option.isNone_none]; (try simp only [wrap_u32, wrap_u64]); rfl)) ?_ | refine pA_via (by (intro K; simp (disch := omega) only [go_sem, pN_min, pN_max, w_u32, w_u64, Option.isNone_some, Option.isNone_none]; (try simp only [wrap_u32, wrap_u64]); rfl)) ?_ | fail)
  exact hQ _ _ (EncE.shut (b := a) (s := s) (EncE.shut (b := b) (s := s0) hS e rfl rfl) e rfl rfl)

theorem Bytes_ok (hS : Sat E w (Enc b st :: M)) (hk : st.k + 18 ≤ 140737488355328) (hQ : ∀ s w, Sat E w (rows cd_uint8 s st.bytes :: Enc b st :: M) → Q (.slice s.a st.bytes.length s.c) w) :
    Calls Tryz.prog 76 #[.pointer (some ⟨b, 0, none⟩)] w (retP Q) := by
  refine rcenc_Encoder_Bytes.calls ?_
  unfold rcenc_Encoder_Bytes.F
  obtain ⟨e, hr, ho, hS⟩ := Enc.opn hS
  have j := hr.len
  have j1 := hr.rng
  have j2 := ho.r1
  refine pc_rcenc_Encoder_Fork (ForkE_ok hS (by omega) fun c w hS => ?_)
  have hS := Enc.shut (hS.fd (EncE b)) hr ho
  refine ⟨fun x w => ∃ (m : Nat) (e' : R.E) (st' : R.S), x = .int .i64 m ∧ m ≤ 5 ∧ R.Rep e' st' ∧ e'.rng < 4294967296 ∧ st'.k = st.k + m ∧ e.shifts m = e' ∧ Sat E w (EncE c e' :: Enc b st :: M), fun x _ => 5 - (RowKit.intOf x).toNat,
    ⟨0, e, st, rfl, by omega, hr, by omega, rfl, rfl, hS.to⟩, ?_⟩
  clear hS
  rintro _ _ w ⟨m, e', st', rfl, hm, hr', h1, h2, h3, hS⟩
  have k1 := hr'.inv.l0
  have k2 := hr'.inv.sum
  have k3 := hr'.inv.r0
  have k4 := hr'.len
  repeat' (first | (refine pN_lss_s ?_ ?_ <;> intro hc <;> try (exfalso; omega)) | refine pIf_t ?_ | refine pIf_f ?_ | refine pN_via (by (intro K; simp (disch := omega) only [go_sem, pN_min, pN_max, w_u32, w_u64, Option.isNone_some, Option.isNone_none]; (try simp only [wrap_u32, wrap_u64]); rfl)) ?_ | fail)
  · refine pc_rcenc_Encoder_shift (shift_ok hS k1 (by omega) (by omega) fun w hS => ?_)
    repeat' (first | refine pN_via (by (intro K; simp (disch := omega) only [go_sem, pN_min, pN_max, w_u32, w_u64, Option.isNone_some, Option.isNone_none]; (try simp only [wrap_u32, wrap_u64]); rfl)) ?_ | fail)
    refine ⟨⟨m + 1, _, _, rfl, by omega, hr'.shift0 h1, by rw [R.shift_rng]; exact h1, by simp only; omega, ?_, hS⟩, by simp [RowKit.intOf] <;> omega⟩
    rw [R.E.shifts, h3]
  · obtain rfl : m = 5 := by omega
    have hb := (hr.bytes (by omega)).1
    have e1 : e.shifts 5 = e.shift.shift.shift.shift.shift := rfl
    rw [← e1, h3] at hb
    obtain ⟨s, hS⟩ := EncE.opn hS
    repeat' (first | refine pN_l hS (by first | rfl | assumption) ?_ | fail)
    rw [hb] at hS ⊢
    exact hQ _ _ hS.to
end

end Go.Proofs.YtbgnnjfpiblkmaaGreatDoor

namespace Go.Proofs.YtbgnnjfpiblkmaaGreatDoor
open Go
set_option linter.unusedSimpArgs false
set_option linter.unnecessarySimpa false
set_option linter.unusedSectionVars false
set_option linter.unusedVariables false
attribute [local irreducible] oMv oV oU oCall oCallV oBi oBin oUn oLoad oStore oNil oFld oField oIdx oIndex oPick oAlloc oBox oBuild oBs oConv oMk oSl oExt oFn oIface oMap oLook oMapUp oRange oNext oEntry oInv oAssert oPanic oRes pN pA pL pDr pIf gA pGd

section
variable {E w : World} {M : List HA} {Q : Value → World → Prop} {b p : Nat} {s : R.S} {l : List Int}

theorem order_ok (back : Bool) (n k : Nat) (hk : k < n) (hn : n ≤ 16) (hQ : Q (.int .i64 (if back then k else n - 1 - k : Nat)) w) : Calls Tryz.prog 222 #[.bool back, .int .i64 n, .int .i64 k] w (retP Q) := by
  refine tree_order.calls ?_
  unfold tree_order.F
  cases back
  · repeat' (first | refine pIf_f ?_ | refine pN_via (by (intro K; simp (disch := omega) only [go_sem, pN_min, pN_max, w_u32, w_u64, Option.isNone_some, Option.isNone_none]; (try simp only [wrap_u32, wrap_u64]); rfl)) ?_ | fail)
    have e : (n : Int) - 1 - k = ((n - 1 - k : Nat) : Int) := by omega
    rw [e]; exact hQ
  · repeat' (first | refine pIf_t ?_ | fail)
    exact hQ

theorem there_ok (hS : Sat E w (PSet p l :: M)) (at_ n : Int) (hQ : ∀ w, Sat E w (PSet p l :: M) → Q (.bool (decide (R.There l.length at_ n))) w) : Calls Tryz.prog 219 #[.pointer (some ⟨p, 0, none⟩), .int .i64 at_, .int .i64 n] w (retP Q) := by
  refine tree_there.calls ?_
  unfold tree_there.F
  obtain ⟨sl, hS'⟩ := PSet.opn hS
  have hlen := rows_len (C := cd_int) sl hS'
  have shl : ∀ (w : World) (J : Value → Prop), 0 ≤ n → n ≤ 16 → J (.int .i64 (2 ^ n.toNat)) → pA Tryz.prog (oBin .shl 3 (.const (.int .i64 1)) (.tmp 24) (.int .i64 1) (.int .i64 n)) J := by
    intro w J h0 h1 h
    refine pA_shl_k n.toNat (Int.toNat_of_nonneg h0).symm (by show _ ≤ 64; omega) ?_
    have e : (1 : Int) * 2 ^ n.toNat = 2 ^ n.toNat := Int.one_mul _
    have h2 : (2 : Int) ^ n.toNat ≤ 2 ^ 16 := R.two_le (by omega)
    have h3 : (0 : Int) < 2 ^ n.toNat := Int.pow_pos (by omega)
    have e2 : (2 : Int) ^ 16 = 65536 := by decide
    rw [e, wrap_i64 (by omega)]
    exact h
  have fin : ∀ w b, (b = true ↔ R.There l.length at_ n) → Sat E w (PSet p l :: M) → Q (.bool b) w := by
    intro w b hb hS
    have := hQ w hS
    by_cases h : R.There l.length at_ n
    · rw [decide_eq_true h] at this
      rw [hb.2 h]; exact this
    · rw [decide_eq_false h] at this
      have : b = false := by
        cases b
        · rfl
        · exact absurd (hb.1 rfl) h
      rw [this]; assumption
  repeat' (first | (refine pc_prob_Set_Len (Len_ok (hS.fd (PSet p)) ?_); clear hS; intro w hS) | refine shl w _ (by omega) (by omega) ?_ | ((first | refine pA_leq_s ?_ ?_ | refine pA_geq_s ?_ ?_) <;> intro hc <;> try (exfalso; omega)) | refine gA_go (by rfl) ?_ | refine gA_no (by rfl) ?_ | refine pGd_go (by rfl) ?_ | refine pGd_no (by rfl) ?_ | (refine pDr_go hS ?_; clear hS; intro w hS) | refine ⟨trivial, ?_⟩ | refine pA_via (by (intro K; simp (disch := omega) only [go_sem, pN_min, pN_max, w_u32, w_u64, Option.isNone_some, Option.isNone_none]; (try simp only [wrap_u32, wrap_u64]); rfl)) ?_ | fail)
  all_goals
    refine fin _ _ ?_ hS
    unfold R.There
    first
      | (refine ⟨fun _ => (by omega), fun _ => rfl⟩)
      | (refine ⟨fun h => (by cases h), fun h => (by omega)⟩)

theorem holds_ok (v n : Int) (h0 : 0 ≤ n) (h1 : n ≤ 16) (hQ : Q (.bool (decide (R.Holds v n))) w) : Calls Tryz.prog 251 #[.int .i64 v, .int .i64 n] w (retP Q) := by
  refine tree_holds.calls ?_
  unfold tree_holds.F
  have shl : ∀ (w : World) (K : Value → World → Prop), K (.int .i64 (2 ^ n.toNat)) w → pN Tryz.prog (oBin .shl 3 (.const (.int .i64 1)) (.tmp 9) (.int .i64 1) (.int .i64 n)) w K := by
    intro w K h
    refine pN_shl_k n.toNat (Int.toNat_of_nonneg h0).symm (by show _ ≤ 64; omega) ?_
    have e : (1 : Int) * 2 ^ n.toNat = 2 ^ n.toNat := Int.one_mul _
    have h2 : (2 : Int) ^ n.toNat ≤ 2 ^ 16 := R.two_le (by omega)
    have h3 : (0 : Int) < 2 ^ n.toNat := Int.pow_pos (by omega)
    have e2 : (2 : Int) ^ 16 = 65536 := by decide
    rw [e, wrap_i64 (by omega)]
    exact h
  have fin : ∀ b, (b = true ↔ R.Holds v n) → Q (.bool b) w := by
    intro b hb
    by_cases h : R.Holds v n
    · rw [decide_eq_true h] at hQ
      rw [hb.2 h]; exact hQ
    · rw [decide_eq_false h] at hQ
      have : b = false := by
        cases b
        · rfl
        · exact absurd (hb.1 rfl) h
      rw [this]; exact hQ
  repeat' (first | refine shl w _ ?_ | ((first | refine pN_lss_s ?_ ?_ | refine pN_geq_s ?_ ?_) <;> intro hc <;> try (exfalso; omega)) | refine pGd_go (by rfl) ?_ | refine pGd_no (by rfl) ?_ | refine pN_via (by (intro K; simp (disch := omega) only [go_sem, pN_min, pN_max, w_u32, w_u64, Option.isNone_some, Option.isNone_none]; (try simp only [wrap_u32, wrap_u64]); rfl)) ?_ | fail)
  all_goals
    refine fin _ ?_
    unfold R.Holds
    first
      | (refine ⟨fun _ => (by omega), fun _ => rfl⟩)
      | (refine ⟨fun h => (by cases h), fun h => (by omega)⟩)

theorem down_ok (at_ : Int) (n : Nat) (g : Value) (bs : Nat → Int) (hb : ∀ k, 0 ≤ bs k ∧ bs k ≤ 1) (hn : n ≤ 16) (h0 : 0 ≤ at_) (h1 : at_ ≤ 1099511627776) (Inv : Nat → World → Prop)
    (hI : Inv 0 w) (step : ∀ k w (K : Value → World → Prop), k < n → Inv k w → (∀ w, Inv (k + 1) w → K (.tuple #[.int .i64 (bs k), .int .i64 0]) w) → pN Tryz.prog (oCallV g [.int .i64 (at_ + R.node bs k), .int .i64 k]) w K)
    (hQ : ∀ w, Inv n w → Q (.int .i64 0) w) : Calls Tryz.prog 220 #[.int .i64 at_, .int .i64 n, g] w (retP Q) := by
  refine tree_down.calls ?_
  unfold tree_down.F
  refine ⟨fun m v w => ∃ k : Nat, m = .int .i64 (R.node bs k) ∧ v = .int .i64 k ∧ k ≤ n ∧ Inv k w, fun _ v _ => n - (RowKit.intOf v).toNat, ⟨0, rfl, rfl, Nat.zero_le _, hI⟩, ?_⟩
  rintro _ _ _ w1 ⟨k, rfl, rfl, hk, hI⟩
  have hm := R.node_lo hb k
  have h2 : (2 : Int) ^ (k + 1) ≤ 2 ^ 17 := R.two_le (by omega)
  have h3 : (0 : Int) < 2 ^ k := Int.pow_pos (by omega)
  have e2 : (2 : Int) ^ 17 = 131072 := by decide
  have hbk := hb k
  repeat' (first | (refine pN_lss_s ?_ ?_ <;> intro hc <;> try (exfalso; omega)) | refine pIf_t ?_ | refine pIf_f ?_ | refine pN_via (by (intro K; simp (disch := omega) only [go_sem, pN_min, pN_max, w_u32, w_u64, Option.isNone_some, Option.isNone_none]; (try simp only [wrap_u32, wrap_u64]); rfl)) ?_ | fail)
  · refine step k _ _ (by omega) hI fun w hI => ?_
    repeat' (first | (refine pN_neq_s ?_ ?_ <;> intro hc <;> try (exfalso; first | omega | exact hc rfl | exact hc (by assumption) | exact absurd hc (by assumption))) | refine pIf_f ?_ | refine pN_via (by (intro K; simp (disch := omega) only [go_sem, pN_min, pN_max, w_u32, w_u64, Option.isNone_some, Option.isNone_none]; (try simp only [wrap_u32, wrap_u64]); rfl)) ?_ | fail)
    exact ⟨⟨k + 1, rfl, rfl, by omega, hI⟩, by simp [RowKit.intOf] <;> omega⟩
  · obtain rfl : k = n := by omega
    exact hQ _ hI

theorem put_c1_ok {c1 c2 c3 c4 c5 : Nat} {v : Int} {back : Bool} {n k : Nat} (place : Int)
    (hS : Sat E w (Enc b s :: PSet p l :: cel c1 ⟨3, [.int .i64 v]⟩ :: cel c2 ⟨4, [.bool back]⟩ :: cel c3 ⟨3, [.int .i64 n]⟩ :: cel c4 ⟨125, [.pointer (some ⟨b, 0, none⟩)]⟩ :: cel c5 ⟨137, [.pointer (some ⟨p, 0, none⟩)]⟩ :: M))
    (hf : B.Fine l) (hs : s.k + 10 ≤ 140737488355328) (hk : k < n) (hn : n ≤ 16) (p0 : 0 ≤ place) (p1 : place < l.length)
    (hQ : ∀ w, Sat E w (Enc b (R.TS.bit ⟨s, l⟩ place (R.bitAt back n v k)).s :: PSet p (R.TS.bit ⟨s, l⟩ place (R.bitAt back n v k)).l :: cel c1 ⟨3, [.int .i64 v]⟩ :: cel c2 ⟨4, [.bool back]⟩ :: cel c3 ⟨3, [.int .i64 n]⟩ :: cel c4 ⟨125, [.pointer (some ⟨b, 0, none⟩)]⟩ :: cel c5 ⟨137, [.pointer (some ⟨p, 0, none⟩)]⟩ :: M) → Q (.tuple #[.int .i64 (R.bitAt back n v k), .int .i64 0]) w) :
    Calls Tryz.prog 252 #[.int .i64 place, .int .i64 k, .pointer (some ⟨c1, 0, none⟩), .pointer (some ⟨c2, 0, none⟩), .pointer (some ⟨c3, 0, none⟩), .pointer (some ⟨c4, 0, none⟩), .pointer (some ⟨c5, 0, none⟩)] w (retP Q) := by
  simp only [R.TS.bit, R.bitAt] at hQ
  refine tree_put_c1.calls ?_
  unfold tree_put_c1.F
  have hx : l[place.toNat]? = some (l.getD place.toNat 0) := by
    rw [List.getD_eq_getElem?_getD, List.getElem?_eq_getElem (show place.toNat < l.length by omega)]; rfl
  have hj : (if back then k else n - 1 - k) ≤ 64 := by split <;> omega
  repeat' (first | refine pc_tree_order (order_ok back n k hk hn ?_) | refine pA_shr_k _ rfl hj ?_ | (refine pc_rcenc_Encoder_Bit (Bit_in (hS.fd2 (Enc b) (PSet p)) hf hs _ _ p0 hx ?_); clear hS; intro w hS) | refine pN_l hS (by first | rfl | assumption) ?_ | refine pL_l hS (by first | rfl | assumption) ?_ | (refine pDr_go hS ?_; clear hS; intro w hS) | refine ⟨⟨(by first | exact run_l hS (by first | rfl | assumption) | exact run_st hS (by first | rfl | omega) | exact run_ld1 ha hS | exact fun _ => run_l hS (by rfl) | exact fun _ => run_st hS (by first | rfl | omega) | exact fun _ => run_ld1 ha hS | exact fun h => Bool.noConfusion h), trivial⟩, ?_⟩ | refine pA_via (by (intro K; simp (disch := omega) only [go_sem, pN_min, pN_max, w_u32, w_u64, Option.isNone_some, Option.isNone_none]; (try simp only [wrap_u32, wrap_u64]); rfl)) ?_ | fail)
  exact hQ _ hS.to

theorem put_ok (hS : Sat E w (Enc b s :: PSet p l :: M)) (ho : R.Ok s) (hf : B.Fine l) (hs : s.k + 100 ≤ 140737488355328) (at_ n v : Int) (back : Bool) (hl : l.length ≤ 1048576)
    (hQ : ∀ w, Sat E w (Enc b (if R.There l.length at_ n ∧ R.Holds v n then R.TS.put ⟨s, l⟩ at_ (R.bitAt back n.toNat v) n.toNat else ⟨s, l⟩).s :: PSet p (if R.There l.length at_ n ∧ R.Holds v n then R.TS.put ⟨s, l⟩ at_ (R.bitAt back n.toNat v) n.toNat else ⟨s, l⟩).l :: M) →
      Q (.int .i64 (if R.There l.length at_ n ∧ R.Holds v n then 0 else 7)) w) :
    Calls Tryz.prog 249 #[.pointer (some ⟨b, 0, none⟩), .pointer (some ⟨p, 0, none⟩), .int .i64 at_, .int .i64 n, .int .i64 v, .bool back] w (retP Q) := by
  refine tree_put.calls ?_
  unfold tree_put.F
  by_cases ht : R.There l.length at_ n
  · by_cases hh : R.Holds v n
    · have hc : R.There l.length at_ n ∧ R.Holds v n := ⟨ht, hh⟩
      simp only [if_pos hc] at hQ
      have ht' := ht
      obtain ⟨n0, n1, a0, a1, a2⟩ := ht'
      refine pN_bx hS (by rfl) fun c4 w hS => ?_
      refine pN_bx hS (by rfl) fun c5 w hS => ?_
      refine pN_bx hS (by rfl) fun c3 w hS => ?_
      refine pN_bx hS (by rfl) fun c1 w hS => ?_
      refine pN_bx hS (by rfl) fun c2 w hS => ?_
      have t1 : decide (R.There l.length at_ n) = true := decide_eq_true ht
      have t2 : decide (R.Holds v n) = true := decide_eq_true hh
      repeat' (first | (refine pc_tree_there (there_ok (hS.fd (PSet p)) _ _ ?_); rw [t1]; clear hS; intro w hS) | (refine pc_tree_holds (holds_ok _ _ n0 n1 ?_); rw [t2]) | refine pIf_f ?_ | refine pGd_go (by rfl) ?_ | refine pN_l hS (by first | rfl | assumption) ?_ | refine pN_fn ?_ | refine pN_via (by (intro K; simp (disch := omega) only [go_sem, pN_min, pN_max, w_u32, w_u64, Option.isNone_some, Option.isNone_none]; (try simp only [wrap_u32, wrap_u64]); rfl)) ?_ | fail)
      obtain ⟨m, rfl⟩ : ∃ m : Nat, n = m := ⟨n.toNat, by omega⟩
      rw [Int.toNat_natCast] at hQ
      have hb := R.bitAt_01 back m v
      have oa : R.TS.Ok ⟨s, l⟩ := ⟨ho, hf⟩
      refine pc_tree_down (down_ok at_ m _ (R.bitAt back m v) hb (by omega) a0 (by omega)
        (fun k w => Sat E w (Enc b (R.TS.put ⟨s, l⟩ at_ (R.bitAt back m v) k).s :: PSet p (R.TS.put ⟨s, l⟩ at_ (R.bitAt back m v) k).l :: cel c1 ⟨3, [.int .i64 v]⟩ :: cel c2 ⟨4, [.bool back]⟩ :: cel c3 ⟨3, [.int .i64 m]⟩ :: cel c4 ⟨125, [.pointer (some ⟨b, 0, none⟩)]⟩ :: cel c5 ⟨137, [.pointer (some ⟨p, 0, none⟩)]⟩ :: M)) (by simp only [R.TS.put, R.costs]; exact hS.to) ?_ ?_)
      · intro k w K hk hS hK
        have ⟨o1, o2⟩ := oa.put ht hb k (by rw [Int.toNat_natCast]; omega)
        have hp := ht.place hb (k := k) (by rw [Int.toNat_natCast]; omega)
        have hlen := R.TS.put_len ⟨s, l⟩ at_ (R.bitAt back m v) k
        simp only at o2 hlen
        refine pv_tree_put_c1 (put_c1_ok _ hS o1.f (by omega) hk (by omega) hp.1 (by omega) fun w hS => hK w hS)
      · intro w hS
        skip
        exact hQ _ hS.to
    · have hc : ¬ (R.There l.length at_ n ∧ R.Holds v n) := fun h => hh h.2
      simp only [if_neg hc] at hQ
      have ht' := ht
      obtain ⟨n0, n1, a0, a1, a2⟩ := ht'
      have t1 : decide (R.There l.length at_ n) = true := decide_eq_true ht
      have t2 : decide (R.Holds v n) = false := decide_eq_false hh
      repeat' (first | (refine pc_tree_there (there_ok (hS.fd (PSet p)) _ _ ?_); rw [t1]; clear hS; intro w hS) | (refine pc_tree_holds (holds_ok _ _ n0 n1 ?_); rw [t2]) | refine pIf_t ?_ | refine pGd_go (by rfl) ?_ | refine pN_l hS (by first | rfl | assumption) ?_ | (refine pN_bx hS (by rfl) ?_; clear hS; intro a w hS) | refine pN_via (by (intro K; simp (disch := omega) only [go_sem, pN_min, pN_max, w_u32, w_u64, Option.isNone_some, Option.isNone_none]; (try simp only [wrap_u32, wrap_u64]); rfl)) ?_ | fail)
      exact hQ _ hS.to
  · have hc : ¬ (R.There l.length at_ n ∧ R.Holds v n) := fun h => ht h.1
    simp only [if_neg hc] at hQ
    have t1 : decide (R.There l.length at_ n) = false := decide_eq_false ht
    repeat' (first | (refine pc_tree_there (there_ok (hS.fd (PSet p)) _ _ ?_); rw [t1]; clear hS; intro w hS) | refine pIf_t ?_ | refine pGd_no (by rfl) ?_ | refine pN_l hS (by first | rfl | assumption) ?_ | (refine pN_bx hS (by rfl) ?_; clear hS; intro a w hS) | refine pN_via (by (intro K; simp (disch := omega) only [go_sem, pN_min, pN_max, w_u32, w_u64, Option.isNone_some, Option.isNone_none]; (try simp only [wrap_u32, wrap_u64]); rfl)) ?_ | fail)
    exact hQ _ hS.to

theorem Put_ok (hS : Sat E w (Enc b s :: PSet p l :: M)) (ho : R.Ok s) (hf : B.Fine l) (hs : s.k + 100 ≤ 140737488355328) (at_ n v : Int) (hl : l.length ≤ 1048576)
    (hQ : ∀ w, Sat E w (Enc b (if R.There l.length at_ n ∧ R.Holds v n then R.TS.put ⟨s, l⟩ at_ (R.bitAt false n.toNat v) n.toNat else ⟨s, l⟩).s :: PSet p (if R.There l.length at_ n ∧ R.Holds v n then R.TS.put ⟨s, l⟩ at_ (R.bitAt false n.toNat v) n.toNat else ⟨s, l⟩).l :: M) →
      Q (.int .i64 (if R.There l.length at_ n ∧ R.Holds v n then 0 else 7)) w) :
    Calls Tryz.prog 248 #[.pointer (some ⟨b, 0, none⟩), .pointer (some ⟨p, 0, none⟩), .int .i64 at_, .int .i64 n, .int .i64 v] w (retP Q) := by
  refine tree_Put.calls ?_
  unfold tree_Put.F
  refine pc_tree_put (put_ok hS ho hf hs at_ n v false hl fun w hS => ?_)
  exact hQ w hS
theorem Put_in (hS : Sat E w (Enc b s :: PSet p l :: M)) (ho : R.Ok s) (hf : B.Fine l) (hs : s.k + 100 ≤ 140737488355328) (at_ n v : Int) (hl : l.length ≤ 1048576) (ht : R.There l.length at_ n) (hh : R.Holds v n)
    (hQ : ∀ w, Sat E w (Enc b (R.TS.put ⟨s, l⟩ at_ (R.bitAt false n.toNat v) n.toNat).s :: PSet p (R.TS.put ⟨s, l⟩ at_ (R.bitAt false n.toNat v) n.toNat).l :: M) → Q (.int .i64 0) w) :
    Calls Tryz.prog 248 #[.pointer (some ⟨b, 0, none⟩), .pointer (some ⟨p, 0, none⟩), .int .i64 at_, .int .i64 n, .int .i64 v] w (retP Q) := by
  refine Put_ok hS ho hf hs at_ n v hl fun w hS => ?_
  rw [if_pos ⟨ht, hh⟩] at hS ⊢
  exact hQ w hS

theorem PutBack_ok (hS : Sat E w (Enc b s :: PSet p l :: M)) (ho : R.Ok s) (hf : B.Fine l) (hs : s.k + 100 ≤ 140737488355328) (at_ n v : Int) (hl : l.length ≤ 1048576)
    (hQ : ∀ w, Sat E w (Enc b (if R.There l.length at_ n ∧ R.Holds v n then R.TS.put ⟨s, l⟩ at_ (R.bitAt true n.toNat v) n.toNat else ⟨s, l⟩).s :: PSet p (if R.There l.length at_ n ∧ R.Holds v n then R.TS.put ⟨s, l⟩ at_ (R.bitAt true n.toNat v) n.toNat else ⟨s, l⟩).l :: M) →
      Q (.int .i64 (if R.There l.length at_ n ∧ R.Holds v n then 0 else 7)) w) :
    Calls Tryz.prog 245 #[.pointer (some ⟨b, 0, none⟩), .pointer (some ⟨p, 0, none⟩), .int .i64 at_, .int .i64 n, .int .i64 v] w (retP Q) := by
  refine tree_PutBack.calls ?_
  unfold tree_PutBack.F
  refine pc_tree_put (put_ok hS ho hf hs at_ n v true hl fun w hS => ?_)
  exact hQ w hS
theorem PutBack_in (hS : Sat E w (Enc b s :: PSet p l :: M)) (ho : R.Ok s) (hf : B.Fine l) (hs : s.k + 100 ≤ 140737488355328) (at_ n v : Int) (hl : l.length ≤ 1048576) (ht : R.There l.length at_ n) (hh : R.Holds v n)
    (hQ : ∀ w, Sat E w (Enc b (R.TS.put ⟨s, l⟩ at_ (R.bitAt true n.toNat v) n.toNat).s :: PSet p (R.TS.put ⟨s, l⟩ at_ (R.bitAt true n.toNat v) n.toNat).l :: M) → Q (.int .i64 0) w) :
    Calls Tryz.prog 245 #[.pointer (some ⟨b, 0, none⟩), .pointer (some ⟨p, 0, none⟩), .int .i64 at_, .int .i64 n, .int .i64 v] w (retP Q) := by
  refine PutBack_ok hS ho hf hs at_ n v hl fun w hS => ?_
  rw [if_pos ⟨ht, hh⟩] at hS ⊢
  exact hQ w hS

end

end Go.Proofs.YtbgnnjfpiblkmaaGreatDoor

namespace Go.Proofs.YtbgnnjfpiblkmaaGreatDoor
open Go
set_option linter.unusedSimpArgs false
set_option linter.unnecessarySimpa false
set_option linter.unusedSectionVars false
set_option linter.unusedVariables false

abbrev mth (nm : String) (c : Value) : Value := .func (.method nm) [c].toArray [].toArray
structure Snk (p : Z.Pr) (q : Nat → Nat) (c : Value) (X : List Z.Op → HA) : Prop where
  nb : ∀ w, (oNil (mth "pith/lzenc.bit" c)).run Tryz.prog w = .ok (.value (mth "pith/lzenc.bit" c)) w
  nt : ∀ w, (oNil (mth "pith/lzenc.tree" c)).run Tryz.prog w = .ok (.value (mth "pith/lzenc.tree" c)) w
  nk : ∀ w, (oNil (mth "pith/lzenc.back" c)).run Tryz.prog w = .ok (.value (mth "pith/lzenc.back" c)) w
  nd : ∀ w, (oNil (mth "pith/lzenc.direct" c)).run Tryz.prog w = .ok (.value (mth "pith/lzenc.direct" c)) w
  bit : ∀ {E w : World} {M : List HA} {K : Value → World → Prop} {l : List Z.Op} (t : Nat) (i b : Int), (Z.Op.bit t i b).Ok p → l.length ≤ 20 → Sat E w (X l :: M) → (∀ w, Sat E w (X (l ++ [.bit t i b]) :: M) → K (.tuple #[]) w) → pN Tryz.prog (oInv c "pith/lzenc.bit" [pz (q t), .int .i64 i, .int .i64 b]) w K
  tree : ∀ {E w : World} {M : List HA} {K : Value → World → Prop} {l : List Z.Op} (t : Nat) (a : Int) (n : Nat) (m v : Int), m = n → (Z.Op.tree t a n v).Ok p → l.length ≤ 20 → Sat E w (X l :: M) → (∀ w, Sat E w (X (l ++ [.tree t a n v]) :: M) → K (.tuple #[]) w) → pN Tryz.prog (oInv c "pith/lzenc.tree" [pz (q t), .int .i64 a, .int .i64 m, .int .i64 v]) w K
  back : ∀ {E w : World} {M : List HA} {K : Value → World → Prop} {l : List Z.Op} (t : Nat) (a : Int) (n : Nat) (m v : Int), m = n → (Z.Op.back t a n v).Ok p → l.length ≤ 20 → Sat E w (X l :: M) → (∀ w, Sat E w (X (l ++ [.back t a n v]) :: M) → K (.tuple #[]) w) → pN Tryz.prog (oInv c "pith/lzenc.back" [pz (q t), .int .i64 a, .int .i64 m, .int .i64 v]) w K
  direct : ∀ {E w : World} {M : List HA} {K : Value → World → Prop} {l : List Z.Op} (v : Int) (n : Nat) (m : Int), m = n → (Z.Op.direct v n).Ok p → l.length ≤ 20 → Sat E w (X l :: M) → (∀ w, Sat E w (X (l ++ [.direct v n]) :: M) → K (.tuple #[]) w) → pN Tryz.prog (oInv c "pith/lzenc.direct" [.int .i64 v, .int .i64 m]) w K
theorem pA_nilm {P : Program} {v : Value} {J : Value → Prop} (hn : ∀ w, (oNil v).run P w = .ok (.value v) w) (hk : J v) : pA P (oNil v) J := ⟨_, hn, hk⟩
attribute [local irreducible] oMv oV oU oCall oCallV oBi oBin oUn oLoad oStore oNil oFld oField oIdx oIndex oPick oAlloc oBox oBuild oBs oConv oMk oSl oExt oFn oIface oMap oLook oMapUp oRange oNext oEntry oInv oAssert oPanic oRes pN pA pL pDr pIf gA pGd

abbrev encCells (t wd en : Nat) : List Value := [pz t, pz wd, pz en]

section
variable {E w W : World} {M N : List HA} {Q : Value → World → Prop} {p : Z.Pr} {s : Z.St} {x : Z.W} {b t wd en : Nat} {q : Nat → Nat} {c : Value} {X : List Z.Op → HA} {l : List Z.Op}

theorem length_ok (hk : Snk p q c X) (hp : p.Ok) (k : Nat) (hkk : k = 7 ∨ k = 11) {n : Int} (hn : Z.isLen n) (hl : l.length ≤ 10)
    (hS : Sat E w (X l :: cel b ⟨128, encCells t wd en⟩ :: cel t ⟨141, tbCells p s q⟩ :: Win wd x :: M)) (hx : x.all.length ≤ 4611686018427387904)
    (hQ : ∀ w, Sat E w (X (l ++ Z.lenOps k p x.all.length n) :: cel b ⟨128, encCells t wd en⟩ :: cel t ⟨141, tbCells p s q⟩ :: Win wd x :: M) → Q (.tuple #[]) w) :
    Calls Tryz.prog 105 #[pz b, c, .agg #[pz (q k), pz (q (k + 1)), pz (q (k + 2)), pz (q (k + 3))], .int .i64 n] w (retP Q) := by
  refine lzenc_Encoder_length.calls ?_
  unfold lzenc_Encoder_length.F
  have ho := (Z.lenOps_ok hp k hkk x.all.length hn).ok
  have hpl := place_bd hp x.all.length
  obtain ⟨n1, n2⟩ := hn
  by_cases h8 : n - 2 < 8
  · have e : Z.lenOps k p x.all.length n = [.bit k 0 0, .tree (k + 1) (8 * Z.place p x.all.length) 3 (n - 2)] := by unfold Z.lenOps; rw [if_pos h8]
    rw [e] at ho hQ
    repeat' (first | (refine hk.bit _ _ _ (ho _ (by first | exact List.Mem.head _ | exact List.Mem.tail _ (List.Mem.head _) | exact List.Mem.tail _ (List.Mem.tail _ (List.Mem.head _)) | exact List.Mem.tail _ (List.Mem.tail _ (List.Mem.tail _ (List.Mem.head _))) | exact List.Mem.tail _ (List.Mem.tail _ (List.Mem.tail _ (List.Mem.tail _ (List.Mem.head _)))) | exact List.Mem.tail _ (List.Mem.tail _ (List.Mem.tail _ (List.Mem.tail _ (List.Mem.tail _ (List.Mem.head _))))) | exact List.Mem.tail _ (List.Mem.tail _ (List.Mem.tail _ (List.Mem.tail _ (List.Mem.tail _ (List.Mem.tail _ (List.Mem.head _)))))))) (by first | omega | (simp only [List.length_append, List.length_cons, List.length_nil]; omega)) (hS.fd X) ?_; clear hS; intro w hS) | (refine hk.tree _ _ 3 _ _ rfl (ho _ (by first | exact List.Mem.head _ | exact List.Mem.tail _ (List.Mem.head _) | exact List.Mem.tail _ (List.Mem.tail _ (List.Mem.head _)) | exact List.Mem.tail _ (List.Mem.tail _ (List.Mem.tail _ (List.Mem.head _))) | exact List.Mem.tail _ (List.Mem.tail _ (List.Mem.tail _ (List.Mem.tail _ (List.Mem.head _)))) | exact List.Mem.tail _ (List.Mem.tail _ (List.Mem.tail _ (List.Mem.tail _ (List.Mem.tail _ (List.Mem.head _))))) | exact List.Mem.tail _ (List.Mem.tail _ (List.Mem.tail _ (List.Mem.tail _ (List.Mem.tail _ (List.Mem.tail _ (List.Mem.head _)))))))) (by first | omega | (simp only [List.length_append, List.length_cons, List.length_nil]; omega)) (hS.fd X) ?_; clear hS; intro w hS) | (refine pc_window_Window_Pos (Pos_ok (hS.fd (Win wd)) ?_); clear hS; intro w hS) | (refine pc_model_Tables_PlaceState (PlaceState_ok (hS.fd (cel t)) hp _ (by omega) (by omega) ?_); clear hS; intro w hS) | (refine pN_lss_s ?_ ?_ <;> intro hc <;> try (exfalso; omega)) | refine pIf_t ?_ | refine pN_l hS (by first | rfl | assumption) ?_ | refine pL_l hS (by first | rfl | assumption) ?_ | (refine pDr_go hS ?_; clear hS; intro w hS) | (refine pN_bx hS (by rfl) ?_; clear hS; intro a w hS) | refine ⟨trivial, ?_⟩ | refine ⟨⟨(by first | exact run_l hS (by first | rfl | assumption) | exact run_st hS (by first | rfl | omega) | exact run_ld1 ha hS | exact fun _ => run_l hS (by rfl) | exact fun _ => run_st hS (by first | rfl | omega) | exact fun _ => run_ld1 ha hS | exact fun h => Bool.noConfusion h), trivial⟩, ?_⟩ | refine pN_via (by (intro K; simp (disch := omega) only [go_sem, pN_min, pN_max, w_u32, w_u64, Option.isNone_some, Option.isNone_none]; (try simp only [wrap_u32, wrap_u64]); rfl)) ?_ | refine pA_via (by (intro K; simp (disch := omega) only [go_sem, pN_min, pN_max, w_u32, w_u64, Option.isNone_some, Option.isNone_none]; (try simp only [wrap_u32, wrap_u64]); rfl)) ?_ | fail)
    simp only [List.append_assoc, List.cons_append, List.nil_append] at hS
    exact hQ _ hS.to
  · by_cases h16 : n - 2 < 16
    · have e : Z.lenOps k p x.all.length n = [.bit k 0 1, .bit k 1 0, .tree (k + 2) (8 * Z.place p x.all.length) 3 (n - 2 - 8)] := by unfold Z.lenOps; rw [if_neg h8, if_pos h16]
      rw [e] at ho hQ
      repeat' (first | (refine hk.bit _ _ _ (ho _ (by first | exact List.Mem.head _ | exact List.Mem.tail _ (List.Mem.head _) | exact List.Mem.tail _ (List.Mem.tail _ (List.Mem.head _)) | exact List.Mem.tail _ (List.Mem.tail _ (List.Mem.tail _ (List.Mem.head _))) | exact List.Mem.tail _ (List.Mem.tail _ (List.Mem.tail _ (List.Mem.tail _ (List.Mem.head _)))) | exact List.Mem.tail _ (List.Mem.tail _ (List.Mem.tail _ (List.Mem.tail _ (List.Mem.tail _ (List.Mem.head _))))) | exact List.Mem.tail _ (List.Mem.tail _ (List.Mem.tail _ (List.Mem.tail _ (List.Mem.tail _ (List.Mem.tail _ (List.Mem.head _)))))))) (by first | omega | (simp only [List.length_append, List.length_cons, List.length_nil]; omega)) (hS.fd X) ?_; clear hS; intro w hS) | (refine hk.tree _ _ 3 _ _ rfl (ho _ (by first | exact List.Mem.head _ | exact List.Mem.tail _ (List.Mem.head _) | exact List.Mem.tail _ (List.Mem.tail _ (List.Mem.head _)) | exact List.Mem.tail _ (List.Mem.tail _ (List.Mem.tail _ (List.Mem.head _))) | exact List.Mem.tail _ (List.Mem.tail _ (List.Mem.tail _ (List.Mem.tail _ (List.Mem.head _)))) | exact List.Mem.tail _ (List.Mem.tail _ (List.Mem.tail _ (List.Mem.tail _ (List.Mem.tail _ (List.Mem.head _))))) | exact List.Mem.tail _ (List.Mem.tail _ (List.Mem.tail _ (List.Mem.tail _ (List.Mem.tail _ (List.Mem.tail _ (List.Mem.head _)))))))) (by first | omega | (simp only [List.length_append, List.length_cons, List.length_nil]; omega)) (hS.fd X) ?_; clear hS; intro w hS) | (refine pc_window_Window_Pos (Pos_ok (hS.fd (Win wd)) ?_); clear hS; intro w hS) | (refine pc_model_Tables_PlaceState (PlaceState_ok (hS.fd (cel t)) hp _ (by omega) (by omega) ?_); clear hS; intro w hS) | (refine pN_lss_s ?_ ?_ <;> intro hc <;> try (exfalso; omega)) | refine pIf_t ?_ | refine pIf_f ?_ | refine pN_l hS (by first | rfl | assumption) ?_ | refine pL_l hS (by first | rfl | assumption) ?_ | (refine pDr_go hS ?_; clear hS; intro w hS) | (refine pN_bx hS (by rfl) ?_; clear hS; intro a w hS) | refine ⟨trivial, ?_⟩ | refine ⟨⟨(by first | exact run_l hS (by first | rfl | assumption) | exact run_st hS (by first | rfl | omega) | exact run_ld1 ha hS | exact fun _ => run_l hS (by rfl) | exact fun _ => run_st hS (by first | rfl | omega) | exact fun _ => run_ld1 ha hS | exact fun h => Bool.noConfusion h), trivial⟩, ?_⟩ | refine pN_via (by (intro K; simp (disch := omega) only [go_sem, pN_min, pN_max, w_u32, w_u64, Option.isNone_some, Option.isNone_none]; (try simp only [wrap_u32, wrap_u64]); rfl)) ?_ | refine pA_via (by (intro K; simp (disch := omega) only [go_sem, pN_min, pN_max, w_u32, w_u64, Option.isNone_some, Option.isNone_none]; (try simp only [wrap_u32, wrap_u64]); rfl)) ?_ | fail)
      simp only [List.append_assoc, List.cons_append, List.nil_append] at hS
      exact hQ _ hS.to
    · have e : Z.lenOps k p x.all.length n = [.bit k 0 1, .bit k 1 1, .tree (k + 3) 0 8 (n - 2 - 16)] := by unfold Z.lenOps; rw [if_neg h8, if_neg h16]
      rw [e] at ho hQ
      repeat' (first | (refine hk.bit _ _ _ (ho _ (by first | exact List.Mem.head _ | exact List.Mem.tail _ (List.Mem.head _) | exact List.Mem.tail _ (List.Mem.tail _ (List.Mem.head _)) | exact List.Mem.tail _ (List.Mem.tail _ (List.Mem.tail _ (List.Mem.head _))) | exact List.Mem.tail _ (List.Mem.tail _ (List.Mem.tail _ (List.Mem.tail _ (List.Mem.head _)))) | exact List.Mem.tail _ (List.Mem.tail _ (List.Mem.tail _ (List.Mem.tail _ (List.Mem.tail _ (List.Mem.head _))))) | exact List.Mem.tail _ (List.Mem.tail _ (List.Mem.tail _ (List.Mem.tail _ (List.Mem.tail _ (List.Mem.tail _ (List.Mem.head _)))))))) (by first | omega | (simp only [List.length_append, List.length_cons, List.length_nil]; omega)) (hS.fd X) ?_; clear hS; intro w hS) | (refine hk.tree _ _ 8 _ _ rfl (ho _ (by first | exact List.Mem.head _ | exact List.Mem.tail _ (List.Mem.head _) | exact List.Mem.tail _ (List.Mem.tail _ (List.Mem.head _)) | exact List.Mem.tail _ (List.Mem.tail _ (List.Mem.tail _ (List.Mem.head _))) | exact List.Mem.tail _ (List.Mem.tail _ (List.Mem.tail _ (List.Mem.tail _ (List.Mem.head _)))) | exact List.Mem.tail _ (List.Mem.tail _ (List.Mem.tail _ (List.Mem.tail _ (List.Mem.tail _ (List.Mem.head _))))) | exact List.Mem.tail _ (List.Mem.tail _ (List.Mem.tail _ (List.Mem.tail _ (List.Mem.tail _ (List.Mem.tail _ (List.Mem.head _)))))))) (by first | omega | (simp only [List.length_append, List.length_cons, List.length_nil]; omega)) (hS.fd X) ?_; clear hS; intro w hS) | (refine pc_window_Window_Pos (Pos_ok (hS.fd (Win wd)) ?_); clear hS; intro w hS) | (refine pc_model_Tables_PlaceState (PlaceState_ok (hS.fd (cel t)) hp _ (by omega) (by omega) ?_); clear hS; intro w hS) | (refine pN_lss_s ?_ ?_ <;> intro hc <;> try (exfalso; omega)) | refine pIf_f ?_ | refine pN_l hS (by first | rfl | assumption) ?_ | refine pL_l hS (by first | rfl | assumption) ?_ | (refine pDr_go hS ?_; clear hS; intro w hS) | (refine pN_bx hS (by rfl) ?_; clear hS; intro a w hS) | refine ⟨trivial, ?_⟩ | refine ⟨⟨(by first | exact run_l hS (by first | rfl | assumption) | exact run_st hS (by first | rfl | omega) | exact run_ld1 ha hS | exact fun _ => run_l hS (by rfl) | exact fun _ => run_st hS (by first | rfl | omega) | exact fun _ => run_ld1 ha hS | exact fun h => Bool.noConfusion h), trivial⟩, ?_⟩ | refine pN_via (by (intro K; simp (disch := omega) only [go_sem, pN_min, pN_max, w_u32, w_u64, Option.isNone_some, Option.isNone_none]; (try simp only [wrap_u32, wrap_u64]); rfl)) ?_ | refine pA_via (by (intro K; simp (disch := omega) only [go_sem, pN_min, pN_max, w_u32, w_u64, Option.isNone_some, Option.isNone_none]; (try simp only [wrap_u32, wrap_u64]); rfl)) ?_ | fail)
      simp only [List.append_assoc, List.cons_append, List.nil_append] at hS
      exact hQ _ hS.to

set_option maxHeartbeats 2000000 in
theorem distance_ok {y : Z.Y} (hk : Snk p q c X) (hp : p.Ok) (hn : Z.isLen y.Len) (hd : Z.isDist y.Dist) (hl : l.length ≤ 15)
    (hS : Sat E w (X l :: cel b ⟨128, encCells t wd en⟩ :: cel t ⟨141, tbCells p s q⟩ :: M))
    (hQ : ∀ w, Sat E w (X (l ++ Z.distOps y.Len y.Dist) :: cel b ⟨128, encCells t wd en⟩ :: cel t ⟨141, tbCells p s q⟩ :: M) → Q (.tuple #[]) w) :
    Calls Tryz.prog 106 #[pz b, c, .agg #[.int .i64 y.Kind, bv y.Byte, .int .i64 y.Len, .int .i64 y.Dist]] w (retP Q) := by
  refine lzenc_Encoder_distance.calls ?_
  unfold lzenc_Encoder_distance.F
  have ho := (Z.distOps_ok p hn hd).ok
  obtain ⟨s0, s1, sb, s2, s3⟩ := Z.slot_law hd
  obtain ⟨n1, n2⟩ := hn
  have d1 := hd.1
  have d2 := hd.2
  have hb := Z.bits_0 s0
  have hlp := Z.least_pos s0
  have hlate : ∀ b, decide (14 ≤ Z.slot y.Dist) = b → True := fun _ _ => trivial
  unfold Z.distOps at ho hQ
  dsimp only at ho hQ
  by_cases h4 : Z.bitsN (Z.slot y.Dist) = 0
  · rw [if_pos h4] at ho hQ
    repeat' (first | (refine hk.tree _ _ 6 _ _ rfl (ho _ (by first | exact List.Mem.head _ | exact List.Mem.tail _ (List.Mem.head _) | exact List.Mem.tail _ (List.Mem.tail _ (List.Mem.head _)) | exact List.Mem.tail _ (List.Mem.tail _ (List.Mem.tail _ (List.Mem.head _))) | exact List.Mem.tail _ (List.Mem.tail _ (List.Mem.tail _ (List.Mem.tail _ (List.Mem.head _)))) | exact List.Mem.tail _ (List.Mem.tail _ (List.Mem.tail _ (List.Mem.tail _ (List.Mem.tail _ (List.Mem.head _))))) | exact List.Mem.tail _ (List.Mem.tail _ (List.Mem.tail _ (List.Mem.tail _ (List.Mem.tail _ (List.Mem.tail _ (List.Mem.head _)))))))) (by first | omega | (simp only [List.length_append, List.length_cons, List.length_nil]; omega)) (hS.fd X) ?_; clear hS; intro w hS) | refine pA_nilm hk.nt ?_ | refine pc_state_Slot (Slot_in _ hd ?_) | refine pc_state_Range (Range_in _ s0 s1 ?_) | refine pA_minv rfl ?_ | (refine pN_eql_s ?_ ?_ <;> intro hc <;> try (exfalso; first | omega | exact hc rfl | exact hc (by assumption) | exact absurd hc (by assumption))) | refine pIf_t ?_ | refine pN_l hS (by first | rfl | assumption) ?_ | refine pL_l hS (by first | rfl | assumption) ?_ | (refine pDr_go hS ?_; clear hS; intro w hS) | (refine pN_bx hS (by rfl) ?_; clear hS; intro a w hS) | refine ⟨trivial, ?_⟩ | refine ⟨⟨(by first | exact run_l hS (by first | rfl | assumption) | exact run_st hS (by first | rfl | omega) | exact run_ld1 ha hS | exact fun _ => run_l hS (by rfl) | exact fun _ => run_st hS (by first | rfl | omega) | exact fun _ => run_ld1 ha hS | exact fun h => Bool.noConfusion h), (by first | exact run_l hS (by first | rfl | assumption) | exact run_st hS (by first | rfl | omega) | exact run_ld1 ha hS | exact fun _ => run_l hS (by rfl) | exact fun _ => run_st hS (by first | rfl | omega) | exact fun _ => run_ld1 ha hS | exact fun h => Bool.noConfusion h), (by first | exact run_l hS (by first | rfl | assumption) | exact run_st hS (by first | rfl | omega) | exact run_ld1 ha hS | exact fun _ => run_l hS (by rfl) | exact fun _ => run_st hS (by first | rfl | omega) | exact fun _ => run_ld1 ha hS | exact fun h => Bool.noConfusion h), trivial⟩, ?_⟩ | refine pN_fn ?_ | refine pN_via (by (intro K; simp (disch := omega) only [go_sem, pN_min, pN_max, w_u32, w_u64, Option.isNone_some, Option.isNone_none]; (try simp only [wrap_u32, wrap_u64]); rfl)) ?_ | refine pA_via (by (intro K; simp (disch := omega) only [go_sem, pN_min, pN_max, w_u32, w_u64, Option.isNone_some, Option.isNone_none]; (try simp only [wrap_u32, wrap_u64]); rfl)) ?_ | fail)
    exact hQ _ hS.to
  · rw [if_neg h4] at ho hQ
    by_cases h14 : Z.slot y.Dist < 14
    · rw [if_pos h14] at ho hQ
      have e14 : decide (14 ≤ Z.slot y.Dist) = false := decide_eq_false (by omega)
      repeat' (first | (refine hk.tree _ _ 6 _ _ rfl (ho _ (by first | exact List.Mem.head _ | exact List.Mem.tail _ (List.Mem.head _) | exact List.Mem.tail _ (List.Mem.tail _ (List.Mem.head _)) | exact List.Mem.tail _ (List.Mem.tail _ (List.Mem.tail _ (List.Mem.head _))) | exact List.Mem.tail _ (List.Mem.tail _ (List.Mem.tail _ (List.Mem.tail _ (List.Mem.head _)))) | exact List.Mem.tail _ (List.Mem.tail _ (List.Mem.tail _ (List.Mem.tail _ (List.Mem.tail _ (List.Mem.head _))))) | exact List.Mem.tail _ (List.Mem.tail _ (List.Mem.tail _ (List.Mem.tail _ (List.Mem.tail _ (List.Mem.tail _ (List.Mem.head _)))))))) (by first | omega | (simp only [List.length_append, List.length_cons, List.length_nil]; omega)) (hS.fd X) ?_; clear hS; intro w hS) | refine pA_nilm hk.nt ?_ | refine pc_state_Slot (Slot_in _ hd ?_) | refine pc_state_Range (Range_in _ s0 s1 ?_) | refine pA_minv rfl ?_ | (refine pc_model_Late (Late_ok _ ?_); rw [e14]) | (refine pN_eql_s ?_ ?_ <;> intro hc <;> try (exfalso; first | omega | exact hc rfl | exact hc (by assumption) | exact absurd hc (by assumption))) | refine pIf_t ?_ | refine pIf_f ?_ | refine pN_l hS (by first | rfl | assumption) ?_ | refine pL_l hS (by first | rfl | assumption) ?_ | (refine pDr_go hS ?_; clear hS; intro w hS) | (refine pN_bx hS (by rfl) ?_; clear hS; intro a w hS) | refine ⟨trivial, ?_⟩ | refine ⟨⟨(by first | exact run_l hS (by first | rfl | assumption) | exact run_st hS (by first | rfl | omega) | exact run_ld1 ha hS | exact fun _ => run_l hS (by rfl) | exact fun _ => run_st hS (by first | rfl | omega) | exact fun _ => run_ld1 ha hS | exact fun h => Bool.noConfusion h), (by first | exact run_l hS (by first | rfl | assumption) | exact run_st hS (by first | rfl | omega) | exact run_ld1 ha hS | exact fun _ => run_l hS (by rfl) | exact fun _ => run_st hS (by first | rfl | omega) | exact fun _ => run_ld1 ha hS | exact fun h => Bool.noConfusion h), (by first | exact run_l hS (by first | rfl | assumption) | exact run_st hS (by first | rfl | omega) | exact run_ld1 ha hS | exact fun _ => run_l hS (by rfl) | exact fun _ => run_st hS (by first | rfl | omega) | exact fun _ => run_ld1 ha hS | exact fun h => Bool.noConfusion h), trivial⟩, ?_⟩ | refine pN_fn ?_ | refine pN_via (by (intro K; simp (disch := omega) only [go_sem, pN_min, pN_max, w_u32, w_u64, Option.isNone_some, Option.isNone_none]; (try simp only [wrap_u32, wrap_u64]); rfl)) ?_ | refine pA_via (by (intro K; simp (disch := omega) only [go_sem, pN_min, pN_max, w_u32, w_u64, Option.isNone_some, Option.isNone_none]; (try simp only [wrap_u32, wrap_u64]); rfl)) ?_ | fail)
      refine ⟨?_, ?_⟩
      · repeat' (first | (refine hk.back _ _ _ _ _ rfl (ho _ (by first | exact List.Mem.head _ | exact List.Mem.tail _ (List.Mem.head _) | exact List.Mem.tail _ (List.Mem.tail _ (List.Mem.head _)) | exact List.Mem.tail _ (List.Mem.tail _ (List.Mem.tail _ (List.Mem.head _))) | exact List.Mem.tail _ (List.Mem.tail _ (List.Mem.tail _ (List.Mem.tail _ (List.Mem.head _)))) | exact List.Mem.tail _ (List.Mem.tail _ (List.Mem.tail _ (List.Mem.tail _ (List.Mem.tail _ (List.Mem.head _))))) | exact List.Mem.tail _ (List.Mem.tail _ (List.Mem.tail _ (List.Mem.tail _ (List.Mem.tail _ (List.Mem.tail _ (List.Mem.head _)))))))) (by first | omega | (simp only [List.length_append, List.length_cons, List.length_nil]; omega)) (hS.fd X) ?_; clear hS; intro w hS) | refine pA_nilm hk.nk ?_ | refine pc_model_RestAt (RestAt_ok _ s0 (by omega) ?_) | refine ⟨trivial, ?_⟩ | refine ⟨⟨(by first | exact run_l hS (by first | rfl | assumption) | exact run_st hS (by first | rfl | omega) | exact run_ld1 ha hS | exact fun _ => run_l hS (by rfl) | exact fun _ => run_st hS (by first | rfl | omega) | exact fun _ => run_ld1 ha hS | exact fun h => Bool.noConfusion h), (by first | exact run_l hS (by first | rfl | assumption) | exact run_st hS (by first | rfl | omega) | exact run_ld1 ha hS | exact fun _ => run_l hS (by rfl) | exact fun _ => run_st hS (by first | rfl | omega) | exact fun _ => run_ld1 ha hS | exact fun h => Bool.noConfusion h), trivial⟩, ?_⟩ | refine pN_fn ?_ | fail)
        simp only [List.append_assoc, List.cons_append, List.nil_append] at hS
        exact hQ _ hS.to
      · repeat' (first | (refine hk.back _ _ _ _ _ rfl (ho _ (by first | exact List.Mem.head _ | exact List.Mem.tail _ (List.Mem.head _) | exact List.Mem.tail _ (List.Mem.tail _ (List.Mem.head _)) | exact List.Mem.tail _ (List.Mem.tail _ (List.Mem.tail _ (List.Mem.head _))) | exact List.Mem.tail _ (List.Mem.tail _ (List.Mem.tail _ (List.Mem.tail _ (List.Mem.head _)))) | exact List.Mem.tail _ (List.Mem.tail _ (List.Mem.tail _ (List.Mem.tail _ (List.Mem.tail _ (List.Mem.head _))))) | exact List.Mem.tail _ (List.Mem.tail _ (List.Mem.tail _ (List.Mem.tail _ (List.Mem.tail _ (List.Mem.tail _ (List.Mem.head _)))))))) (by first | omega | (simp only [List.length_append, List.length_cons, List.length_nil]; omega)) (hS.fd X) ?_; clear hS; intro w hS) | refine pA_nilm hk.nk ?_ | refine pc_model_RestAt (RestAt_ok _ s0 (by omega) ?_) | refine ⟨trivial, ?_⟩ | refine ⟨⟨(by first | exact run_l hS (by first | rfl | assumption) | exact run_st hS (by first | rfl | omega) | exact run_ld1 ha hS | exact fun _ => run_l hS (by rfl) | exact fun _ => run_st hS (by first | rfl | omega) | exact fun _ => run_ld1 ha hS | exact fun h => Bool.noConfusion h), (by first | exact run_l hS (by first | rfl | assumption) | exact run_st hS (by first | rfl | omega) | exact run_ld1 ha hS | exact fun _ => run_l hS (by rfl) | exact fun _ => run_st hS (by first | rfl | omega) | exact fun _ => run_ld1 ha hS | exact fun h => Bool.noConfusion h), trivial⟩, ?_⟩ | refine pN_fn ?_ | fail)
        simp only [List.append_assoc, List.cons_append, List.nil_append] at hS
        exact hQ _ hS.to
    · rw [if_neg h14] at ho hQ
      have e14 : decide (14 ≤ Z.slot y.Dist) = true := decide_eq_true (by omega)
      have hlb := Z.late_bits (s := Z.slot y.Dist) (by omega)
      have hbm : ((Z.bitsN (Z.slot y.Dist) - 4 : Nat) : Int) = (Z.bitsN (Z.slot y.Dist) : Int) - 4 := by omega
      repeat' (first | (refine hk.tree _ _ 6 _ _ rfl (ho _ (by first | exact List.Mem.head _ | exact List.Mem.tail _ (List.Mem.head _) | exact List.Mem.tail _ (List.Mem.tail _ (List.Mem.head _)) | exact List.Mem.tail _ (List.Mem.tail _ (List.Mem.tail _ (List.Mem.head _))) | exact List.Mem.tail _ (List.Mem.tail _ (List.Mem.tail _ (List.Mem.tail _ (List.Mem.head _)))) | exact List.Mem.tail _ (List.Mem.tail _ (List.Mem.tail _ (List.Mem.tail _ (List.Mem.tail _ (List.Mem.head _))))) | exact List.Mem.tail _ (List.Mem.tail _ (List.Mem.tail _ (List.Mem.tail _ (List.Mem.tail _ (List.Mem.tail _ (List.Mem.head _)))))))) (by first | omega | (simp only [List.length_append, List.length_cons, List.length_nil]; omega)) (hS.fd X) ?_; clear hS; intro w hS) | (refine hk.back _ _ _ _ _ rfl (ho _ (by first | exact List.Mem.head _ | exact List.Mem.tail _ (List.Mem.head _) | exact List.Mem.tail _ (List.Mem.tail _ (List.Mem.head _)) | exact List.Mem.tail _ (List.Mem.tail _ (List.Mem.tail _ (List.Mem.head _))) | exact List.Mem.tail _ (List.Mem.tail _ (List.Mem.tail _ (List.Mem.tail _ (List.Mem.head _)))) | exact List.Mem.tail _ (List.Mem.tail _ (List.Mem.tail _ (List.Mem.tail _ (List.Mem.tail _ (List.Mem.head _))))) | exact List.Mem.tail _ (List.Mem.tail _ (List.Mem.tail _ (List.Mem.tail _ (List.Mem.tail _ (List.Mem.tail _ (List.Mem.head _)))))))) (by first | omega | (simp only [List.length_append, List.length_cons, List.length_nil]; omega)) (hS.fd X) ?_; clear hS; intro w hS) | refine pA_nilm hk.nt ?_ | refine pA_nilm hk.nk ?_ | refine pc_state_Slot (Slot_in _ hd ?_) | refine pc_state_Range (Range_in _ s0 s1 ?_) | refine pA_minv rfl ?_ | (refine pc_model_Late (Late_ok _ ?_); rw [e14]) | (rw [← hbm]; refine hk.direct _ _ _ rfl (ho _ (List.Mem.tail _ (List.Mem.head _))) (by first | omega | (simp only [List.length_append, List.length_cons, List.length_nil]; omega)) (hS.fd X) ?_; clear hS; intro w hS) | (refine pN_eql_s ?_ ?_ <;> intro hc <;> try (exfalso; first | omega | exact hc rfl | exact hc (by assumption) | exact absurd hc (by assumption))) | refine pIf_f ?_ | refine pN_l hS (by first | rfl | assumption) ?_ | refine pL_l hS (by first | rfl | assumption) ?_ | (refine pDr_go hS ?_; clear hS; intro w hS) | (refine pN_bx hS (by rfl) ?_; clear hS; intro a w hS) | refine ⟨trivial, ?_⟩ | refine ⟨⟨(by first | exact run_l hS (by first | rfl | assumption) | exact run_st hS (by first | rfl | omega) | exact run_ld1 ha hS | exact fun _ => run_l hS (by rfl) | exact fun _ => run_st hS (by first | rfl | omega) | exact fun _ => run_ld1 ha hS | exact fun h => Bool.noConfusion h), (by first | exact run_l hS (by first | rfl | assumption) | exact run_st hS (by first | rfl | omega) | exact run_ld1 ha hS | exact fun _ => run_l hS (by rfl) | exact fun _ => run_st hS (by first | rfl | omega) | exact fun _ => run_ld1 ha hS | exact fun h => Bool.noConfusion h), trivial⟩, ?_⟩ | refine ⟨⟨(by first | exact run_l hS (by first | rfl | assumption) | exact run_st hS (by first | rfl | omega) | exact run_ld1 ha hS | exact fun _ => run_l hS (by rfl) | exact fun _ => run_st hS (by first | rfl | omega) | exact fun _ => run_ld1 ha hS | exact fun h => Bool.noConfusion h), (by first | exact run_l hS (by first | rfl | assumption) | exact run_st hS (by first | rfl | omega) | exact run_ld1 ha hS | exact fun _ => run_l hS (by rfl) | exact fun _ => run_st hS (by first | rfl | omega) | exact fun _ => run_ld1 ha hS | exact fun h => Bool.noConfusion h), (by first | exact run_l hS (by first | rfl | assumption) | exact run_st hS (by first | rfl | omega) | exact run_ld1 ha hS | exact fun _ => run_l hS (by rfl) | exact fun _ => run_st hS (by first | rfl | omega) | exact fun _ => run_ld1 ha hS | exact fun h => Bool.noConfusion h), trivial⟩, ?_⟩ | refine pN_fn ?_ | refine pN_via (by (intro K; simp (disch := omega) only [go_sem, pN_min, pN_max, w_u32, w_u64, Option.isNone_some, Option.isNone_none]; (try simp only [wrap_u32, wrap_u64]); rfl)) ?_ | refine pA_via (by (intro K; simp (disch := omega) only [go_sem, pN_min, pN_max, w_u32, w_u64, Option.isNone_some, Option.isNone_none]; (try simp only [wrap_u32, wrap_u64]); rfl)) ?_ | fail)
      simp only [List.append_assoc, List.cons_append, List.nil_append] at hS
      exact hQ _ hS.to

set_option maxHeartbeats 2000000 in
theorem literal_ok (hk : Snk p q c X) (hp : p.Ok) (hs : s.Right) (v : UInt8) (hl : l.length ≤ 5)
    (hS : Sat E w (X l :: cel b ⟨128, encCells t wd en⟩ :: cel t ⟨141, tbCells p s q⟩ :: Win wd x :: M)) (hx : x.all.length ≤ 4611686018427387904)
    (hQ : ∀ w, Sat E w (X (l ++ Z.litOps p s x v) :: cel b ⟨128, encCells t wd en⟩ :: cel t ⟨141, tbCells p s q⟩ :: Win wd x :: M) → Q (.tuple #[]) w) :
    Calls Tryz.prog 104 #[pz b, c, .int .i64 v.toNat] w (retP Q) := by
  refine lzenc_Encoder_literal.calls ?_
  unfold lzenc_Encoder_literal.F
  have ho := (Z.litOps_ok hp (s := s) (x := x) v).ok
  have last : ∀ {w : World} {M : List HA} {Q : Value → World → Prop} (d : Int), Sat E w (Win wd x :: M) → (∀ (e : Int) w, Sat E w (Win wd x :: M) → Q (.tuple #[bv (Z.lastOr x d), .int .i64 e]) w) → Calls Tryz.prog 101 #[pz wd, .int .i64 d] w (retP Q) := by
    intro w M Q d hS hQ
    unfold Z.lastOr at hQ
    by_cases h : x.has d
    · rw [if_pos h] at hQ
      exact Last_in hS d h fun w hS => hQ 0 w hS
    · rw [if_neg h] at hQ
      exact Last_no hS d h fun w hS => hQ 7 w hS
  have hn := hs.num
  have hb1 := (Z.lastOr x 1).toNat_lt
  have hb2 := v.toNat_lt
  have hc := context_bd hp x.all.length (Z.lastOr x 1).toNat (by omega) (by omega)
  have tl := Z.tabLen_bd hp 6
  unfold Z.litOps at ho hQ
  dsimp only at ho hQ
  generalize hf : Z.context p x.all.length (Z.lastOr x 1).toNat = f at *
  by_cases h7 : s.num < 7
  · rw [if_pos h7] at ho hQ
    have e7 : decide (s.num < 7) = true := decide_eq_true h7
    repeat' (first | (refine hk.tree _ _ 8 _ _ rfl (ho _ (by first | exact List.Mem.head _ | exact List.Mem.tail _ (List.Mem.head _) | exact List.Mem.tail _ (List.Mem.tail _ (List.Mem.head _)) | exact List.Mem.tail _ (List.Mem.tail _ (List.Mem.tail _ (List.Mem.head _))) | exact List.Mem.tail _ (List.Mem.tail _ (List.Mem.tail _ (List.Mem.tail _ (List.Mem.head _)))) | exact List.Mem.tail _ (List.Mem.tail _ (List.Mem.tail _ (List.Mem.tail _ (List.Mem.tail _ (List.Mem.head _))))) | exact List.Mem.tail _ (List.Mem.tail _ (List.Mem.tail _ (List.Mem.tail _ (List.Mem.tail _ (List.Mem.tail _ (List.Mem.head _)))))))) (by first | omega | (simp only [List.length_append, List.length_cons, List.length_nil]; omega)) (hS.fd X) ?_; clear hS; intro w hS) | refine pA_nilm hk.nt ?_ | (refine pc_window_Window_Pos (Pos_ok (hS.fd (Win wd)) ?_); clear hS; intro w hS) | (refine pc_window_Window_Last (last _ (hS.fd (Win wd)) ?_); clear hS; intro er w hS) | (refine pc_model_Tables_Context (Context_ok (hS.fd (cel t)) hp _ (by omega) (by omega) _ ?_); rw [hf]; clear hS; intro w hS) | (refine pN_la_at (n := 5) hS s.cells rfl rfl ?_) | (refine pc_state_State_Literal (SLiteral_ok hS hs ?_); rw [e7]; clear hS; intro w hS) | refine pIf_t ?_ | refine pN_l hS (by first | rfl | assumption) ?_ | refine pL_l hS (by first | rfl | assumption) ?_ | (refine pDr_go hS ?_; clear hS; intro w hS) | refine ⟨trivial, ?_⟩ | refine ⟨⟨(by first | exact run_l hS (by first | rfl | assumption) | exact run_st hS (by first | rfl | omega) | exact run_ld1 ha hS | exact fun _ => run_l hS (by rfl) | exact fun _ => run_st hS (by first | rfl | omega) | exact fun _ => run_ld1 ha hS | exact fun h => Bool.noConfusion h), trivial⟩, ?_⟩ | refine ⟨⟨(by first | exact run_l hS (by first | rfl | assumption) | exact run_st hS (by first | rfl | omega) | exact run_ld1 ha hS | exact fun _ => run_l hS (by rfl) | exact fun _ => run_st hS (by first | rfl | omega) | exact fun _ => run_ld1 ha hS | exact fun h => Bool.noConfusion h), (by first | exact run_l hS (by first | rfl | assumption) | exact run_st hS (by first | rfl | omega) | exact run_ld1 ha hS | exact fun _ => run_l hS (by rfl) | exact fun _ => run_st hS (by first | rfl | omega) | exact fun _ => run_ld1 ha hS | exact fun h => Bool.noConfusion h), trivial⟩, ?_⟩ | refine pN_fn ?_ | refine pN_via (by (intro K; simp (disch := omega) only [go_sem, pN_min, pN_max, w_u32, w_u64, Option.isNone_some, Option.isNone_none]; (try simp only [wrap_u32, wrap_u64]); rfl)) ?_ | refine pA_via (by (intro K; simp (disch := omega) only [go_sem, pN_min, pN_max, w_u32, w_u64, Option.isNone_some, Option.isNone_none]; (try simp only [wrap_u32, wrap_u64]); rfl)) ?_ | fail)
    exact hQ _ hS.to
  · rw [if_neg h7] at ho hQ
    have e7 : decide (s.num < 7) = false := decide_eq_false h7
    repeat' (first | (refine pc_window_Window_Pos (Pos_ok (hS.fd (Win wd)) ?_); clear hS; intro w hS) | (refine pc_window_Window_Last (last _ (hS.fd (Win wd)) ?_); clear hS; intro er w hS) | (refine pc_model_Tables_Context (Context_ok (hS.fd (cel t)) hp _ (by omega) (by omega) _ ?_); rw [hf]; clear hS; intro w hS) | (refine pN_la_at (n := 5) hS s.cells rfl rfl ?_) | (refine pc_state_State_Literal (SLiteral_ok hS hs ?_); rw [e7]; clear hS; intro w hS) | refine pIf_f ?_ | refine pN_ofb ?_ | refine pN_l hS (by first | rfl | assumption) ?_ | refine pL_l hS (by first | rfl | assumption) ?_ | (refine pDr_go hS ?_; clear hS; intro w hS) | refine ⟨trivial, ?_⟩ | refine ⟨⟨(by first | exact run_l hS (by first | rfl | assumption) | exact run_st hS (by first | rfl | omega) | exact run_ld1 ha hS | exact fun _ => run_l hS (by rfl) | exact fun _ => run_st hS (by first | rfl | omega) | exact fun _ => run_ld1 ha hS | exact fun h => Bool.noConfusion h), trivial⟩, ?_⟩ | refine pN_via (by (intro K; simp (disch := omega) only [go_sem, pN_min, pN_max, w_u32, w_u64, Option.isNone_some, Option.isNone_none]; (try simp only [wrap_u32, wrap_u64]); rfl)) ?_ | refine pA_via (by (intro K; simp (disch := omega) only [go_sem, pN_min, pN_max, w_u32, w_u64, Option.isNone_some, Option.isNone_none]; (try simp only [wrap_u32, wrap_u64]); rfl)) ?_ | fail)
    generalize hu : ((Z.lastOr x s.r0).toNat : Int) = u at *
    have hu0 : 0 ≤ u ∧ u < 256 := by have := (Z.lastOr x s.r0).toNat_lt; omega
    have hv0 : 0 ≤ (v.toNat : Int) ∧ (v.toNat : Int) < 256 := by omega
    generalize (v.toNat : Int) = v' at *
    refine ⟨fun sm i m w => ∃ (k : Nat) (m' : Int) (same : Bool) (l1 : List Z.Op), sm = .bool same ∧ i = .int .i64 ((k : Int) - 1) ∧ m = .int .i64 m' ∧ k ≤ 8 ∧ 1 ≤ m' ∧ m' < 2 ^ (9 - k) ∧ l1 ++ Z.litGo f v' u k m' same = Z.litGo f v' u 8 1 true ∧ l1.length = 8 - k ∧
      Sat E w (X (l ++ l1) :: cel b ⟨128, encCells t wd en⟩ :: cel t ⟨141, tbCells p s q⟩ :: Win wd x :: M), fun _ i _ _ => (RowKit.intOf i + 1).toNat, ⟨8, 1, true, [], rfl, rfl, rfl, by omega, by omega, by decide, rfl, rfl, by rw [List.append_nil]; exact hS.to⟩, ?_⟩
    clear hS
    rintro _ _ _ _ w ⟨k, m', same, l1, rfl, rfl, rfl, hk8, hm1, hm2, hl1, hl2, hS⟩
    cases k with
    | zero =>
      rw [Z.litGo, List.append_nil] at hl1
      rw [hl1] at hS
      repeat' (first | (refine pN_geq_s ?_ ?_ <;> intro hc <;> try (exfalso; omega)) | refine pIf_f ?_ | fail)
      exact hQ _ hS.to
    | succ i =>
      rw [Z.litGo] at hl1
      have ei : ((i + 1 : Nat) : Int) - 1 = (i : Int) := by omega
      rw [ei]
      have hop := ho _ (hl1 ▸ List.mem_append_right l1 (List.Mem.head _))
      have hbit : 0 ≤ v' / 2 ^ i % 2 ∧ v' / 2 ^ i % 2 ≤ 1 := by omega
      have hub : 0 ≤ u / 2 ^ i % 2 ∧ u / 2 ^ i % 2 ≤ 1 := by omega
      have hm8 : m' < 512 := by
        have : (2 : Int) ^ (9 - (i + 1)) ≤ 2 ^ 8 := two_le' (by omega)
        have e8 : (2 : Int) ^ 8 = 256 := by decide
        omega
      have h1le : i ≤ 64 := by omega
      have hm3 : 2 * m' + v' / 2 ^ i % 2 < 2 ^ (9 - i) := by
        have e : 9 - i = (9 - (i + 1)) + 1 := by omega
        rw [e, Int.pow_succ]; omega
      repeat' (first | (refine pN_geq_s ?_ ?_ <;> intro hc <;> try (exfalso; omega)) | refine pIf_t ?_ | fail)
      refine ⟨fun sm m w => sm = .bool (same && decide (v' / 2 ^ i % 2 = u / 2 ^ i % 2)) ∧ m = .int .i64 (2 * m' + v' / 2 ^ i % 2) ∧ Sat E w (X (l ++ (l1 ++ [Z.Op.bit 6 (f + m' + if same = true then 256 * (1 + u / 2 ^ i % 2) else 0) (v' / 2 ^ i % 2)])) :: cel b ⟨128, encCells t wd en⟩ :: cel t ⟨141, tbCells p s q⟩ :: Win wd x :: M), ?_, ?_⟩
      · repeat' (first | refine pA_shr_k i rfl h1le ?_ | (refine pDr_go hS ?_; clear hS; intro w hS) | refine pN_via (by (intro K; simp (disch := omega) only [go_sem, pN_min, pN_max, w_u32, w_u64, Option.isNone_some, Option.isNone_none]; (try simp only [wrap_u32, wrap_u64]); rfl)) ?_ | refine pA_via (by (intro K; simp (disch := omega) only [go_sem, pN_min, pN_max, w_u32, w_u64, Option.isNone_some, Option.isNone_none]; (try simp only [wrap_u32, wrap_u64]); rfl)) ?_ | fail)
        generalize v' / 2 ^ i % 2 = bit at *
        generalize u / 2 ^ i % 2 = ub at *
        refine ⟨fun v w => v = .int .i64 (f + m' + if same = true then 256 * (1 + ub) else 0) ∧ Sat E w (X (l ++ l1) :: cel b ⟨128, encCells t wd en⟩ :: cel t ⟨141, tbCells p s q⟩ :: Win wd x :: M), ?_, ?_⟩
        · cases same
          · repeat' (first | refine pIf_f ?_ | fail)
            exact ⟨by simp, hS.to⟩
          · repeat' (first | refine pIf_t ?_ | refine pN_via (by (intro K; simp (disch := omega) only [go_sem, pN_min, pN_max, w_u32, w_u64, Option.isNone_some, Option.isNone_none]; (try simp only [wrap_u32, wrap_u64]); rfl)) ?_ | fail)
            exact ⟨by simp, hS.to⟩
        clear hS
        rintro _ _ w ⟨rfl, hS⟩
        repeat' (first | refine pA_nilm hk.nb ?_ | (refine hk.bit _ _ _ hop (by simp only [List.length_append]; omega) (hS.fd X) ?_; clear hS; intro w hS) | refine pL_l hS (by first | rfl | assumption) ?_ | (refine pDr_go hS ?_; clear hS; intro w hS) | refine ⟨trivial, ?_⟩ | refine ⟨⟨(by first | exact run_l hS (by first | rfl | assumption) | exact run_st hS (by first | rfl | omega) | exact run_ld1 ha hS | exact fun _ => run_l hS (by rfl) | exact fun _ => run_st hS (by first | rfl | omega) | exact fun _ => run_ld1 ha hS | exact fun h => Bool.noConfusion h), (by first | exact run_l hS (by first | rfl | assumption) | exact run_st hS (by first | rfl | omega) | exact run_ld1 ha hS | exact fun _ => run_l hS (by rfl) | exact fun _ => run_st hS (by first | rfl | omega) | exact fun _ => run_ld1 ha hS | exact fun h => Bool.noConfusion h), trivial⟩, ?_⟩ | refine pN_fn ?_ | refine pA_via (by (intro K; simp (disch := omega) only [go_sem, pN_min, pN_max, w_u32, w_u64, Option.isNone_some, Option.isNone_none]; (try simp only [wrap_u32, wrap_u64]); rfl)) ?_ | fail)
        rw [List.append_assoc] at hS
        cases same
        · repeat' (first | refine pGd_no (by rfl) ?_ | refine pN_via (by (intro K; simp (disch := omega) only [go_sem, pN_min, pN_max, w_u32, w_u64, Option.isNone_some, Option.isNone_none]; (try simp only [wrap_u32, wrap_u64]); rfl)) ?_ | fail)
          exact ⟨rfl, rfl, hS.to⟩
        · repeat' (first | (refine pN_eql_s ?_ ?_ <;> intro hc <;> try (exfalso; first | omega | exact hc rfl | exact hc (by assumption) | exact absurd hc (by assumption))) | refine pGd_go (by rfl) ?_ | refine pN_via (by (intro K; simp (disch := omega) only [go_sem, pN_min, pN_max, w_u32, w_u64, Option.isNone_some, Option.isNone_none]; (try simp only [wrap_u32, wrap_u64]); rfl)) ?_ | fail)
          · exact ⟨by rw [decide_eq_true hc]; rfl, rfl, hS.to⟩
          · exact ⟨by rw [decide_eq_false hc]; rfl, rfl, hS.to⟩
      · clear hS
        rintro _ _ _ w ⟨rfl, rfl, hS⟩
        repeat' (first | refine pN_via (by (intro K; simp (disch := omega) only [go_sem, pN_min, pN_max, w_u32, w_u64, Option.isNone_some, Option.isNone_none]; (try simp only [wrap_u32, wrap_u64]); rfl)) ?_ | fail)
        refine ⟨⟨i, _, _, _, rfl, rfl, rfl, by omega, by omega, hm3, ?_, ?_, hS⟩, by simp [RowKit.intOf] <;> omega⟩
        · rw [List.append_assoc]; exact hl1
        · simp only [List.length_append, List.length_cons, List.length_nil]; omega
end

end Go.Proofs.YtbgnnjfpiblkmaaGreatDoor

namespace Go.Proofs.YtbgnnjfpiblkmaaGreatDoor
open Go
set_option linter.unusedSimpArgs false
set_option linter.unnecessarySimpa false
set_option linter.unusedSectionVars false
set_option linter.unusedVariables false

abbrev codingV (e : Nat) : Value := .iface 136 (.agg #[pz e])
theorem cod_nb (e : Nat) (w : World) : (oNil (mth "pith/lzenc.bit" (codingV e))).run Tryz.prog w = .ok (.value (mth "pith/lzenc.bit" (codingV e))) w := by kernel_rfl
theorem cod_nt (e : Nat) (w : World) : (oNil (mth "pith/lzenc.tree" (codingV e))).run Tryz.prog w = .ok (.value (mth "pith/lzenc.tree" (codingV e))) w := by kernel_rfl
theorem cod_nk (e : Nat) (w : World) : (oNil (mth "pith/lzenc.back" (codingV e))).run Tryz.prog w = .ok (.value (mth "pith/lzenc.back" (codingV e))) w := by kernel_rfl
theorem cod_nd (e : Nat) (w : World) : (oNil (mth "pith/lzenc.direct" (codingV e))).run Tryz.prog w = .ok (.value (mth "pith/lzenc.direct" (codingV e))) w := by kernel_rfl
set_option maxRecDepth 100000
section
variable {w : World} {K : Value → World → Prop}
theorem inv_cod_bit {e : Nat} {args : List Value} (h : Calls Tryz.prog 242 (.agg #[pz e] :: args).toArray w (retP K)) : pN Tryz.prog (oInv (codingV e) "pith/lzenc.bit" args) w K :=
  pN_inv (r := .agg #[pz e]) (fun args w => by kernel_rfl) h
theorem inv_cod_tree {e : Nat} {args : List Value} (h : Calls Tryz.prog 244 (.agg #[pz e] :: args).toArray w (retP K)) : pN Tryz.prog (oInv (codingV e) "pith/lzenc.tree" args) w K :=
  pN_inv (r := .agg #[pz e]) (fun args w => by kernel_rfl) h
theorem inv_cod_back {e : Nat} {args : List Value} (h : Calls Tryz.prog 241 (.agg #[pz e] :: args).toArray w (retP K)) : pN Tryz.prog (oInv (codingV e) "pith/lzenc.back" args) w K :=
  pN_inv (r := .agg #[pz e]) (fun args w => by kernel_rfl) h
theorem inv_cod_direct {e : Nat} {args : List Value} (h : Calls Tryz.prog 243 (.agg #[pz e] :: args).toArray w (retP K)) : pN Tryz.prog (oInv (codingV e) "pith/lzenc.direct" args) w K :=
  pN_inv (r := .agg #[pz e]) (fun args w => by kernel_rfl) h
end
theorem Sat.fd3 {E w : World} {L M N O : List HA} {σ τ υ : Type} (hS : Sat E w L) (F : σ → HA) (G : τ → HA) (H : υ → HA) {a : σ} {b : τ} {c : υ} [h1 : Fnd F L a M] [h2 : Fnd G M b N] [h3 : Fnd H N c O] : Sat E w (F a :: G b :: H c :: O) := hS.perm (h1.perm.trans ((h2.perm.trans (h3.perm.cons _)).cons _))
theorem Sat.fd4 {E w : World} {L M N O R : List HA} {σ τ υ φ : Type} (hS : Sat E w L) (F : σ → HA) (G : τ → HA) (H : υ → HA) (I : φ → HA) {a : σ} {b : τ} {c : υ} {d : φ} [h1 : Fnd F L a M] [h2 : Fnd G M b N] [h3 : Fnd H N c O] [h4 : Fnd I O d R] : Sat E w (F a :: G b :: H c :: I d :: R) := hS.perm (h1.perm.trans ((h2.perm.trans ((h3.perm.trans (h4.perm.cons _)).cons _)).cons _))
attribute [local irreducible] oMv oV oU oCall oCallV oBi oBin oUn oLoad oStore oNil oFld oField oIdx oIndex oPick oAlloc oBox oBuild oBs oConv oMk oSl oExt oFn oIface oMap oLook oMapUp oRange oNext oEntry oInv oAssert oPanic oRes pN pA pL pDr pIf gA pGd

section
variable {E w W : World} {M N : List HA} {Q : Value → World → Prop} {p : Z.Pr} {s : Z.St} {x : Z.W} {b t wd en : Nat} {q : Nat → Nat} {c : Value} {X : List Z.Op → HA} {l : List Z.Op}

set_option maxHeartbeats 2000000 in
theorem code1_ok {y : Z.Y} (hk : Snk p q c X) (hp : p.Ok) (hs : s.Right) (hy : Z.errY y = 0) (hk1 : y.Kind = 1)
    (hS : Sat E w (X [] :: cel b ⟨128, encCells t wd en⟩ :: cel t ⟨141, tbCells p s q⟩ :: Win wd x :: M)) (hx : x.all.length ≤ 4611686018427387904)
    (hQ : ∀ w, Sat E w (X (Z.symOps p s x y) :: cel b ⟨128, encCells t wd en⟩ :: cel t ⟨141, tbCells p s q⟩ :: Win wd x :: M) → Q (.tuple #[]) w) :
    Calls Tryz.prog 68 #[pz b, c, .agg #[.int .i64 y.Kind, bv y.Byte, .int .i64 y.Len, .int .i64 y.Dist]] w (retP Q) := by
  refine lzenc_Encoder_code.calls ?_
  unfold lzenc_Encoder_code.F
  have ho := (Z.symOps_ok hp hs x hy).ok
  have hn := hs.num
  have hpl := place_bd hp x.all.length
  unfold Z.symOps at ho hQ
  dsimp only at ho hQ
  rw [if_pos hk1] at ho hQ
  repeat' (first | (refine hk.bit _ _ _ (ho _ (by first | exact List.Mem.head _ | exact List.Mem.tail _ (List.Mem.head _) | exact List.Mem.tail _ (List.Mem.tail _ (List.Mem.head _)) | exact List.Mem.tail _ (List.Mem.tail _ (List.Mem.tail _ (List.Mem.head _))) | exact List.Mem.tail _ (List.Mem.tail _ (List.Mem.tail _ (List.Mem.tail _ (List.Mem.head _)))) | exact List.Mem.tail _ (List.Mem.tail _ (List.Mem.tail _ (List.Mem.tail _ (List.Mem.tail _ (List.Mem.head _))))) | exact List.Mem.tail _ (List.Mem.tail _ (List.Mem.tail _ (List.Mem.tail _ (List.Mem.tail _ (List.Mem.tail _ (List.Mem.head _)))))))) (by first | omega | (simp only [List.length_append, List.length_cons, List.length_nil]; omega)) (hS.fd X) ?_; clear hS; intro w hS) | refine pA_nilm hk.nb ?_ | (refine pc_window_Window_Pos (Pos_ok (hS.fd (Win wd)) ?_); clear hS; intro w hS) | (refine pc_model_Tables_At (MAt_ok (hS.fd (cel t)) hp hs _ (by omega) (by omega) ?_); clear hS; intro w hS) | (refine pc_lzenc_Encoder_literal (literal_ok hk hp hs _ (by simp only [List.length_append, List.length_cons, List.length_nil]; omega) (hS.fd4 X (cel b) (cel t) (Win wd)) hx ?_); clear hS; intro w hS) | (refine pN_eql_s ?_ ?_ <;> intro hc <;> try (exfalso; first | omega | exact hc rfl | exact hc (by assumption) | exact absurd hc (by assumption))) | refine pIf_t ?_ | refine pN_ofb ?_ | refine pN_l hS (by first | rfl | assumption) ?_ | refine pL_l hS (by first | rfl | assumption) ?_ | (refine pDr_go hS ?_; clear hS; intro w hS) | (refine pN_bx hS (by rfl) ?_; clear hS; intro a w hS) | refine ⟨trivial, ?_⟩ | refine ⟨⟨(by first | exact run_l hS (by first | rfl | assumption) | exact run_st hS (by first | rfl | omega) | exact run_ld1 ha hS | exact fun _ => run_l hS (by rfl) | exact fun _ => run_st hS (by first | rfl | omega) | exact fun _ => run_ld1 ha hS | exact fun h => Bool.noConfusion h), (by first | exact run_l hS (by first | rfl | assumption) | exact run_st hS (by first | rfl | omega) | exact run_ld1 ha hS | exact fun _ => run_l hS (by rfl) | exact fun _ => run_st hS (by first | rfl | omega) | exact fun _ => run_ld1 ha hS | exact fun h => Bool.noConfusion h), trivial⟩, ?_⟩ | refine ⟨⟨(by first | exact run_l hS (by first | rfl | assumption) | exact run_st hS (by first | rfl | omega) | exact run_ld1 ha hS | exact fun _ => run_l hS (by rfl) | exact fun _ => run_st hS (by first | rfl | omega) | exact fun _ => run_ld1 ha hS | exact fun h => Bool.noConfusion h), (by first | exact run_l hS (by first | rfl | assumption) | exact run_st hS (by first | rfl | omega) | exact run_ld1 ha hS | exact fun _ => run_l hS (by rfl) | exact fun _ => run_st hS (by first | rfl | omega) | exact fun _ => run_ld1 ha hS | exact fun h => Bool.noConfusion h), (by first | exact run_l hS (by first | rfl | assumption) | exact run_st hS (by first | rfl | omega) | exact run_ld1 ha hS | exact fun _ => run_l hS (by rfl) | exact fun _ => run_st hS (by first | rfl | omega) | exact fun _ => run_ld1 ha hS | exact fun h => Bool.noConfusion h), trivial⟩, ?_⟩ | refine pN_fn ?_ | refine pN_via (by (intro K; simp (disch := omega) only [go_sem, pN_min, pN_max, w_u32, w_u64, Option.isNone_some, Option.isNone_none]; (try simp only [wrap_u32, wrap_u64]); rfl)) ?_ | refine pA_via (by (intro K; simp (disch := omega) only [go_sem, pN_min, pN_max, w_u32, w_u64, Option.isNone_some, Option.isNone_none]; (try simp only [wrap_u32, wrap_u64]); rfl)) ?_ | fail)
  simp only [List.append_assoc, List.cons_append, List.nil_append] at hS
  exact hQ _ hS.to

set_option maxHeartbeats 2000000 in
theorem code4_ok {y : Z.Y} (hk : Snk p q c X) (hp : p.Ok) (hs : s.Right) (hy : Z.errY y = 0) (hk4 : y.Kind = 4)
    (hS : Sat E w (X [] :: cel b ⟨128, encCells t wd en⟩ :: cel t ⟨141, tbCells p s q⟩ :: Win wd x :: M)) (hx : x.all.length ≤ 4611686018427387904)
    (hQ : ∀ w, Sat E w (X (Z.symOps p s x y) :: cel b ⟨128, encCells t wd en⟩ :: cel t ⟨141, tbCells p s q⟩ :: Win wd x :: M) → Q (.tuple #[]) w) :
    Calls Tryz.prog 68 #[pz b, c, .agg #[.int .i64 y.Kind, bv y.Byte, .int .i64 y.Len, .int .i64 y.Dist]] w (retP Q) := by
  refine lzenc_Encoder_code.calls ?_
  unfold lzenc_Encoder_code.F
  have ho := (Z.symOps_ok hp hs x hy).ok
  have hn := hs.num
  have hpl := place_bd hp x.all.length
  unfold Z.symOps at ho hQ
  dsimp only at ho hQ
  rw [if_neg (by omega), if_neg (by omega), if_pos hk4] at ho hQ
  repeat' (first | (refine hk.bit _ _ _ (ho _ (by first | exact List.Mem.head _ | exact List.Mem.tail _ (List.Mem.head _) | exact List.Mem.tail _ (List.Mem.tail _ (List.Mem.head _)) | exact List.Mem.tail _ (List.Mem.tail _ (List.Mem.tail _ (List.Mem.head _))) | exact List.Mem.tail _ (List.Mem.tail _ (List.Mem.tail _ (List.Mem.tail _ (List.Mem.head _)))) | exact List.Mem.tail _ (List.Mem.tail _ (List.Mem.tail _ (List.Mem.tail _ (List.Mem.tail _ (List.Mem.head _))))) | exact List.Mem.tail _ (List.Mem.tail _ (List.Mem.tail _ (List.Mem.tail _ (List.Mem.tail _ (List.Mem.tail _ (List.Mem.head _)))))))) (by first | omega | (simp only [List.length_append, List.length_cons, List.length_nil]; omega)) (hS.fd X) ?_; clear hS; intro w hS) | refine pA_nilm hk.nb ?_ | (refine pc_window_Window_Pos (Pos_ok (hS.fd (Win wd)) ?_); clear hS; intro w hS) | (refine pc_model_Tables_At (MAt_ok (hS.fd (cel t)) hp hs _ (by omega) (by omega) ?_); clear hS; intro w hS) | (refine pN_eql_s ?_ ?_ <;> intro hc <;> try (exfalso; first | omega | exact hc rfl | exact hc (by assumption) | exact absurd hc (by assumption))) | refine pIf_t ?_ | refine pIf_f ?_ | refine pN_l hS (by first | rfl | assumption) ?_ | refine pL_l hS (by first | rfl | assumption) ?_ | (refine pDr_go hS ?_; clear hS; intro w hS) | (refine pN_bx hS (by rfl) ?_; clear hS; intro a w hS) | refine ⟨trivial, ?_⟩ | refine ⟨⟨(by first | exact run_l hS (by first | rfl | assumption) | exact run_st hS (by first | rfl | omega) | exact run_ld1 ha hS | exact fun _ => run_l hS (by rfl) | exact fun _ => run_st hS (by first | rfl | omega) | exact fun _ => run_ld1 ha hS | exact fun h => Bool.noConfusion h), (by first | exact run_l hS (by first | rfl | assumption) | exact run_st hS (by first | rfl | omega) | exact run_ld1 ha hS | exact fun _ => run_l hS (by rfl) | exact fun _ => run_st hS (by first | rfl | omega) | exact fun _ => run_ld1 ha hS | exact fun h => Bool.noConfusion h), trivial⟩, ?_⟩ | refine ⟨⟨(by first | exact run_l hS (by first | rfl | assumption) | exact run_st hS (by first | rfl | omega) | exact run_ld1 ha hS | exact fun _ => run_l hS (by rfl) | exact fun _ => run_st hS (by first | rfl | omega) | exact fun _ => run_ld1 ha hS | exact fun h => Bool.noConfusion h), (by first | exact run_l hS (by first | rfl | assumption) | exact run_st hS (by first | rfl | omega) | exact run_ld1 ha hS | exact fun _ => run_l hS (by rfl) | exact fun _ => run_st hS (by first | rfl | omega) | exact fun _ => run_ld1 ha hS | exact fun h => Bool.noConfusion h), (by first | exact run_l hS (by first | rfl | assumption) | exact run_st hS (by first | rfl | omega) | exact run_ld1 ha hS | exact fun _ => run_l hS (by rfl) | exact fun _ => run_st hS (by first | rfl | omega) | exact fun _ => run_ld1 ha hS | exact fun h => Bool.noConfusion h), trivial⟩, ?_⟩ | refine pN_fn ?_ | refine pN_via (by (intro K; simp (disch := omega) only [go_sem, pN_min, pN_max, w_u32, w_u64, Option.isNone_some, Option.isNone_none]; (try simp only [wrap_u32, wrap_u64]); rfl)) ?_ | refine pA_via (by (intro K; simp (disch := omega) only [go_sem, pN_min, pN_max, w_u32, w_u64, Option.isNone_some, Option.isNone_none]; (try simp only [wrap_u32, wrap_u64]); rfl)) ?_ | fail)
  simp only [List.append_assoc, List.cons_append, List.nil_append] at hS
  exact hQ _ hS.to

end

end Go.Proofs.YtbgnnjfpiblkmaaGreatDoor

namespace Go.Proofs.YtbgnnjfpiblkmaaGreatDoor
open Go
set_option linter.unusedSimpArgs false
set_option linter.unnecessarySimpa false
set_option linter.unusedSectionVars false
set_option linter.unusedVariables false
attribute [local irreducible] oMv oV oU oCall oCallV oBi oBin oUn oLoad oStore oNil oFld oField oIdx oIndex oPick oAlloc oBox oBuild oBs oConv oMk oSl oExt oFn oIface oMap oLook oMapUp oRange oNext oEntry oInv oAssert oPanic oRes pN pA pL pDr pIf gA pGd

section
variable {E w W : World} {M N : List HA} {Q : Value → World → Prop} {p : Z.Pr} {s : Z.St} {x : Z.W} {b t wd en : Nat} {q : Nat → Nat} {c : Value} {X : List Z.Op → HA} {l : List Z.Op}

set_option maxHeartbeats 2000000 in
theorem code2_ok {y : Z.Y} (hk : Snk p q c X) (hp : p.Ok) (hs : s.Right) (hy : Z.errY y = 0) (hk2 : y.Kind = 2)
    (hS : Sat E w (X [] :: cel b ⟨128, encCells t wd en⟩ :: cel t ⟨141, tbCells p s q⟩ :: Win wd x :: M)) (hx : x.all.length ≤ 4611686018427387904)
    (hQ : ∀ w, Sat E w (X (Z.symOps p s x y) :: cel b ⟨128, encCells t wd en⟩ :: cel t ⟨141, tbCells p s q⟩ :: Win wd x :: M) → Q (.tuple #[]) w) :
    Calls Tryz.prog 68 #[pz b, c, .agg #[.int .i64 y.Kind, bv y.Byte, .int .i64 y.Len, .int .i64 y.Dist]] w (retP Q) := by
  refine lzenc_Encoder_code.calls ?_
  unfold lzenc_Encoder_code.F
  have ho := (Z.symOps_ok hp hs x hy).ok
  have hn := hs.num
  have hpl := place_bd hp x.all.length
  unfold Z.symOps at ho hQ
  dsimp only at ho hQ
  rw [if_neg (by omega), if_pos hk2] at ho hQ
  have hl := Z.err_len hy (.inl hk2)
  have hd := Z.err_dist hy hk2
  repeat' (first | (refine hk.bit _ _ _ (ho _ (by first | exact List.Mem.head _ | exact List.Mem.tail _ (List.Mem.head _) | exact List.Mem.tail _ (List.Mem.tail _ (List.Mem.head _)) | exact List.Mem.tail _ (List.Mem.tail _ (List.Mem.tail _ (List.Mem.head _))) | exact List.Mem.tail _ (List.Mem.tail _ (List.Mem.tail _ (List.Mem.tail _ (List.Mem.head _)))) | exact List.Mem.tail _ (List.Mem.tail _ (List.Mem.tail _ (List.Mem.tail _ (List.Mem.tail _ (List.Mem.head _))))) | exact List.Mem.tail _ (List.Mem.tail _ (List.Mem.tail _ (List.Mem.tail _ (List.Mem.tail _ (List.Mem.tail _ (List.Mem.head _)))))))) (by first | omega | (simp only [List.length_append, List.length_cons, List.length_nil]; omega)) (hS.fd X) ?_; clear hS; intro w hS) | refine pA_nilm hk.nb ?_ | (refine pc_window_Window_Pos (Pos_ok (hS.fd (Win wd)) ?_); clear hS; intro w hS) | refine pL_la_at (n := 4) hS [pz (q 7), pz (q 8), pz (q 9), pz (q 10)] rfl rfl ?_ | (refine pc_model_Tables_At (MAt_ok (hS.fd (cel t)) hp hs _ (by omega) (by omega) ?_); clear hS; intro w hS) | (refine pc_lzenc_Encoder_length (length_ok hk hp 7 (.inl rfl) hl (by simp only [List.length_append, List.length_cons, List.length_nil]; omega) (hS.fd4 X (cel b) (cel t) (Win wd)) hx ?_); clear hS; intro w hS) | (refine pc_lzenc_Encoder_distance (distance_ok hk hp hl hd (by simp only [List.length_append, List.length_cons, List.length_nil]; have := Z.lenOps_len 7 p x.all.length y.Len; omega) (hS.fd3 X (cel b) (cel t)) ?_); clear hS; intro w hS) | (refine pN_eql_s ?_ ?_ <;> intro hc <;> try (exfalso; first | omega | exact hc rfl | exact hc (by assumption) | exact absurd hc (by assumption))) | refine pIf_t ?_ | refine pIf_f ?_ | refine pN_l hS (by first | rfl | assumption) ?_ | refine pL_l hS (by first | rfl | assumption) ?_ | refine pN_la hS (by rfl) ?_ | (refine pDr_go hS ?_; clear hS; intro w hS) | (refine pN_bx hS (by rfl) ?_; clear hS; intro a w hS) | refine ⟨trivial, ?_⟩ | refine ⟨⟨(by first | exact run_l hS (by first | rfl | assumption) | exact run_st hS (by first | rfl | omega) | exact run_ld1 ha hS | exact fun _ => run_l hS (by rfl) | exact fun _ => run_st hS (by first | rfl | omega) | exact fun _ => run_ld1 ha hS | exact fun h => Bool.noConfusion h), (by first | exact run_l hS (by first | rfl | assumption) | exact run_st hS (by first | rfl | omega) | exact run_ld1 ha hS | exact fun _ => run_l hS (by rfl) | exact fun _ => run_st hS (by first | rfl | omega) | exact fun _ => run_ld1 ha hS | exact fun h => Bool.noConfusion h), trivial⟩, ?_⟩ | refine ⟨⟨(by first | exact run_l hS (by first | rfl | assumption) | exact run_st hS (by first | rfl | omega) | exact run_ld1 ha hS | exact fun _ => run_l hS (by rfl) | exact fun _ => run_st hS (by first | rfl | omega) | exact fun _ => run_ld1 ha hS | exact fun h => Bool.noConfusion h), (by first | exact run_l hS (by first | rfl | assumption) | exact run_st hS (by first | rfl | omega) | exact run_ld1 ha hS | exact fun _ => run_l hS (by rfl) | exact fun _ => run_st hS (by first | rfl | omega) | exact fun _ => run_ld1 ha hS | exact fun h => Bool.noConfusion h), (by first | exact run_l hS (by first | rfl | assumption) | exact run_st hS (by first | rfl | omega) | exact run_ld1 ha hS | exact fun _ => run_l hS (by rfl) | exact fun _ => run_st hS (by first | rfl | omega) | exact fun _ => run_ld1 ha hS | exact fun h => Bool.noConfusion h), trivial⟩, ?_⟩ | refine pN_fn ?_ | refine pN_via (by (intro K; simp (disch := omega) only [go_sem, pN_min, pN_max, w_u32, w_u64, Option.isNone_some, Option.isNone_none]; (try simp only [wrap_u32, wrap_u64]); rfl)) ?_ | refine pA_via (by (intro K; simp (disch := omega) only [go_sem, pN_min, pN_max, w_u32, w_u64, Option.isNone_some, Option.isNone_none]; (try simp only [wrap_u32, wrap_u64]); rfl)) ?_ | fail)
  simp only [List.append_assoc, List.cons_append, List.nil_append] at hS hQ
  exact hQ _ hS.to

set_option maxHeartbeats 2000000 in
theorem code3_ok {y : Z.Y} (hk : Snk p q c X) (hp : p.Ok) (hs : s.Right) (hy : Z.errY y = 0) (hk3 : y.Kind = 3)
    (hS : Sat E w (X [] :: cel b ⟨128, encCells t wd en⟩ :: cel t ⟨141, tbCells p s q⟩ :: Win wd x :: M)) (hx : x.all.length ≤ 4611686018427387904)
    (hQ : ∀ w, Sat E w (X (Z.symOps p s x y) :: cel b ⟨128, encCells t wd en⟩ :: cel t ⟨141, tbCells p s q⟩ :: Win wd x :: M) → Q (.tuple #[]) w) :
    Calls Tryz.prog 68 #[pz b, c, .agg #[.int .i64 y.Kind, bv y.Byte, .int .i64 y.Len, .int .i64 y.Dist]] w (retP Q) := by
  refine lzenc_Encoder_code.calls ?_
  unfold lzenc_Encoder_code.F
  have ho := (Z.symOps_ok hp hs x hy).ok
  have hn := hs.num
  have hpl := place_bd hp x.all.length
  unfold Z.symOps at ho hQ
  dsimp only at ho hQ
  rw [if_neg (by omega), if_neg (by omega), if_neg (by omega)] at ho hQ
  have hl := Z.err_len hy (.inr hk3)
  have hd := Z.err_rep hy hk3
  have hrl : (Z.repOps p s x.all.length y.Dist).length ≤ 3 := by
    unfold Z.repOps
    split
    · exact Nat.le_of_ble_eq_true rfl
    · split <;> exact Nat.le_of_ble_eq_true rfl
  repeat' (first | (refine hk.bit _ _ _ (ho _ (by first | exact List.Mem.head _ | exact List.Mem.tail _ (List.Mem.head _) | exact List.Mem.tail _ (List.Mem.tail _ (List.Mem.head _)) | exact List.Mem.tail _ (List.Mem.tail _ (List.Mem.tail _ (List.Mem.head _))) | exact List.Mem.tail _ (List.Mem.tail _ (List.Mem.tail _ (List.Mem.tail _ (List.Mem.head _)))) | exact List.Mem.tail _ (List.Mem.tail _ (List.Mem.tail _ (List.Mem.tail _ (List.Mem.tail _ (List.Mem.head _))))) | exact List.Mem.tail _ (List.Mem.tail _ (List.Mem.tail _ (List.Mem.tail _ (List.Mem.tail _ (List.Mem.tail _ (List.Mem.head _)))))))) (by first | omega | (simp only [List.length_append, List.length_cons, List.length_nil]; omega)) (hS.fd X) ?_; clear hS; intro w hS) | refine pA_nilm hk.nb ?_ | (refine pc_window_Window_Pos (Pos_ok (hS.fd (Win wd)) ?_); clear hS; intro w hS) | (refine pc_model_Tables_At (MAt_ok (hS.fd (cel t)) hp hs _ (by omega) (by omega) ?_); clear hS; intro w hS) | (refine pN_eql_s ?_ ?_ <;> intro hc <;> try (exfalso; first | omega | exact hc rfl | exact hc (by assumption) | exact absurd hc (by assumption))) | refine pIf_f ?_ | refine pN_l hS (by first | rfl | assumption) ?_ | refine pL_l hS (by first | rfl | assumption) ?_ | (refine pDr_go hS ?_; clear hS; intro w hS) | (refine pN_bx hS (by rfl) ?_; clear hS; intro a w hS) | refine ⟨trivial, ?_⟩ | refine ⟨⟨(by first | exact run_l hS (by first | rfl | assumption) | exact run_st hS (by first | rfl | omega) | exact run_ld1 ha hS | exact fun _ => run_l hS (by rfl) | exact fun _ => run_st hS (by first | rfl | omega) | exact fun _ => run_ld1 ha hS | exact fun h => Bool.noConfusion h), (by first | exact run_l hS (by first | rfl | assumption) | exact run_st hS (by first | rfl | omega) | exact run_ld1 ha hS | exact fun _ => run_l hS (by rfl) | exact fun _ => run_st hS (by first | rfl | omega) | exact fun _ => run_ld1 ha hS | exact fun h => Bool.noConfusion h), trivial⟩, ?_⟩ | refine ⟨⟨(by first | exact run_l hS (by first | rfl | assumption) | exact run_st hS (by first | rfl | omega) | exact run_ld1 ha hS | exact fun _ => run_l hS (by rfl) | exact fun _ => run_st hS (by first | rfl | omega) | exact fun _ => run_ld1 ha hS | exact fun h => Bool.noConfusion h), (by first | exact run_l hS (by first | rfl | assumption) | exact run_st hS (by first | rfl | omega) | exact run_ld1 ha hS | exact fun _ => run_l hS (by rfl) | exact fun _ => run_st hS (by first | rfl | omega) | exact fun _ => run_ld1 ha hS | exact fun h => Bool.noConfusion h), (by first | exact run_l hS (by first | rfl | assumption) | exact run_st hS (by first | rfl | omega) | exact run_ld1 ha hS | exact fun _ => run_l hS (by rfl) | exact fun _ => run_st hS (by first | rfl | omega) | exact fun _ => run_ld1 ha hS | exact fun h => Bool.noConfusion h), trivial⟩, ?_⟩ | refine pN_fn ?_ | refine pN_via (by (intro K; simp (disch := omega) only [go_sem, pN_min, pN_max, w_u32, w_u64, Option.isNone_some, Option.isNone_none]; (try simp only [wrap_u32, wrap_u64]); rfl)) ?_ | refine pA_via (by (intro K; simp (disch := omega) only [go_sem, pN_min, pN_max, w_u32, w_u64, Option.isNone_some, Option.isNone_none]; (try simp only [wrap_u32, wrap_u64]); rfl)) ?_ | fail)
  refine ⟨fun w => Sat E w (X ([Z.Op.bit 0 (s.num * 16 + Z.place p x.all.length) 1, Z.Op.bit 2 s.num 1] ++ Z.repOps p s x.all.length y.Dist) :: cel t ⟨141, tbCells p s q⟩ :: Win wd x :: cel a ⟨48, [.int .i64 y.Kind, bv y.Byte, .int .i64 y.Len, .int .i64 y.Dist]⟩ :: cel b ⟨128, encCells t wd en⟩ :: M), ?_, ?_⟩
  · unfold Z.repOps at ho hQ ⊢
    by_cases h0 : y.Dist = 0
    · rw [if_pos h0] at ho ⊢
      repeat' (first | (refine hk.bit _ _ _ (ho _ (by first | exact List.Mem.head _ | exact List.Mem.tail _ (List.Mem.head _) | exact List.Mem.tail _ (List.Mem.tail _ (List.Mem.head _)) | exact List.Mem.tail _ (List.Mem.tail _ (List.Mem.tail _ (List.Mem.head _))) | exact List.Mem.tail _ (List.Mem.tail _ (List.Mem.tail _ (List.Mem.tail _ (List.Mem.head _)))) | exact List.Mem.tail _ (List.Mem.tail _ (List.Mem.tail _ (List.Mem.tail _ (List.Mem.tail _ (List.Mem.head _))))) | exact List.Mem.tail _ (List.Mem.tail _ (List.Mem.tail _ (List.Mem.tail _ (List.Mem.tail _ (List.Mem.tail _ (List.Mem.head _)))))))) (by first | omega | (simp only [List.length_append, List.length_cons, List.length_nil]; omega)) (hS.fd X) ?_; clear hS; intro w hS) | refine pA_nilm hk.nb ?_ | (refine pN_eql_s ?_ ?_ <;> intro hc <;> try (exfalso; first | omega | exact hc rfl | exact hc (by assumption) | exact absurd hc (by assumption))) | refine pIf_t ?_ | refine pN_l hS (by first | rfl | assumption) ?_ | refine pL_l hS (by first | rfl | assumption) ?_ | (refine pDr_go hS ?_; clear hS; intro w hS) | refine ⟨trivial, ?_⟩ | refine ⟨⟨(by first | exact run_l hS (by first | rfl | assumption) | exact run_st hS (by first | rfl | omega) | exact run_ld1 ha hS | exact fun _ => run_l hS (by rfl) | exact fun _ => run_st hS (by first | rfl | omega) | exact fun _ => run_ld1 ha hS | exact fun h => Bool.noConfusion h), (by first | exact run_l hS (by first | rfl | assumption) | exact run_st hS (by first | rfl | omega) | exact run_ld1 ha hS | exact fun _ => run_l hS (by rfl) | exact fun _ => run_st hS (by first | rfl | omega) | exact fun _ => run_ld1 ha hS | exact fun h => Bool.noConfusion h), trivial⟩, ?_⟩ | refine pN_fn ?_ | refine pN_via (by (intro K; simp (disch := omega) only [go_sem, pN_min, pN_max, w_u32, w_u64, Option.isNone_some, Option.isNone_none]; (try simp only [wrap_u32, wrap_u64]); rfl)) ?_ | refine pA_via (by (intro K; simp (disch := omega) only [go_sem, pN_min, pN_max, w_u32, w_u64, Option.isNone_some, Option.isNone_none]; (try simp only [wrap_u32, wrap_u64]); rfl)) ?_ | fail)
      simp only [List.append_assoc, List.cons_append, List.nil_append] at hS ⊢
      exact hS.to
    · rw [if_neg h0] at ho ⊢
      by_cases h1 : 1 < y.Dist
      · rw [if_pos h1] at ho ⊢
        have hm : min (y.Dist - 1) 1 = 1 := by omega
        rw [hm] at ho ⊢
        repeat' (first | (refine hk.bit _ _ _ (ho _ (by first | exact List.Mem.head _ | exact List.Mem.tail _ (List.Mem.head _) | exact List.Mem.tail _ (List.Mem.tail _ (List.Mem.head _)) | exact List.Mem.tail _ (List.Mem.tail _ (List.Mem.tail _ (List.Mem.head _))) | exact List.Mem.tail _ (List.Mem.tail _ (List.Mem.tail _ (List.Mem.tail _ (List.Mem.head _)))) | exact List.Mem.tail _ (List.Mem.tail _ (List.Mem.tail _ (List.Mem.tail _ (List.Mem.tail _ (List.Mem.head _))))) | exact List.Mem.tail _ (List.Mem.tail _ (List.Mem.tail _ (List.Mem.tail _ (List.Mem.tail _ (List.Mem.tail _ (List.Mem.head _)))))))) (by first | omega | (simp only [List.length_append, List.length_cons, List.length_nil]; omega)) (hS.fd X) ?_; clear hS; intro w hS) | refine pA_nilm hk.nb ?_ | refine pA_minv hm ?_ | (refine pN_gtr_s ?_ ?_ <;> intro hc <;> try (exfalso; omega)) | (refine pN_eql_s ?_ ?_ <;> intro hc <;> try (exfalso; first | omega | exact hc rfl | exact hc (by assumption) | exact absurd hc (by assumption))) | refine pIf_t ?_ | refine pIf_f ?_ | refine pN_l hS (by first | rfl | assumption) ?_ | refine pL_l hS (by first | rfl | assumption) ?_ | (refine pDr_go hS ?_; clear hS; intro w hS) | refine ⟨trivial, ?_⟩ | refine ⟨⟨(by first | exact run_l hS (by first | rfl | assumption) | exact run_st hS (by first | rfl | omega) | exact run_ld1 ha hS | exact fun _ => run_l hS (by rfl) | exact fun _ => run_st hS (by first | rfl | omega) | exact fun _ => run_ld1 ha hS | exact fun h => Bool.noConfusion h), (by first | exact run_l hS (by first | rfl | assumption) | exact run_st hS (by first | rfl | omega) | exact run_ld1 ha hS | exact fun _ => run_l hS (by rfl) | exact fun _ => run_st hS (by first | rfl | omega) | exact fun _ => run_ld1 ha hS | exact fun h => Bool.noConfusion h), trivial⟩, ?_⟩ | refine ⟨⟨(by first | exact run_l hS (by first | rfl | assumption) | exact run_st hS (by first | rfl | omega) | exact run_ld1 ha hS | exact fun _ => run_l hS (by rfl) | exact fun _ => run_st hS (by first | rfl | omega) | exact fun _ => run_ld1 ha hS | exact fun h => Bool.noConfusion h), (by first | exact run_l hS (by first | rfl | assumption) | exact run_st hS (by first | rfl | omega) | exact run_ld1 ha hS | exact fun _ => run_l hS (by rfl) | exact fun _ => run_st hS (by first | rfl | omega) | exact fun _ => run_ld1 ha hS | exact fun h => Bool.noConfusion h), (by first | exact run_l hS (by first | rfl | assumption) | exact run_st hS (by first | rfl | omega) | exact run_ld1 ha hS | exact fun _ => run_l hS (by rfl) | exact fun _ => run_st hS (by first | rfl | omega) | exact fun _ => run_ld1 ha hS | exact fun h => Bool.noConfusion h), trivial⟩, ?_⟩ | refine pN_fn ?_ | refine pN_via (by (intro K; simp (disch := omega) only [go_sem, pN_min, pN_max, w_u32, w_u64, Option.isNone_some, Option.isNone_none]; (try simp only [wrap_u32, wrap_u64]); rfl)) ?_ | refine pA_via (by (intro K; simp (disch := omega) only [go_sem, pN_min, pN_max, w_u32, w_u64, Option.isNone_some, Option.isNone_none]; (try simp only [wrap_u32, wrap_u64]); rfl)) ?_ | fail)
        simp only [List.append_assoc, List.cons_append, List.nil_append] at hS ⊢
        exact hS.to
      · rw [if_neg h1] at ho ⊢
        have hm : min (y.Dist - 1) 1 = 0 := by omega
        rw [hm] at ho ⊢
        repeat' (first | (refine hk.bit _ _ _ (ho _ (by first | exact List.Mem.head _ | exact List.Mem.tail _ (List.Mem.head _) | exact List.Mem.tail _ (List.Mem.tail _ (List.Mem.head _)) | exact List.Mem.tail _ (List.Mem.tail _ (List.Mem.tail _ (List.Mem.head _))) | exact List.Mem.tail _ (List.Mem.tail _ (List.Mem.tail _ (List.Mem.tail _ (List.Mem.head _)))) | exact List.Mem.tail _ (List.Mem.tail _ (List.Mem.tail _ (List.Mem.tail _ (List.Mem.tail _ (List.Mem.head _))))) | exact List.Mem.tail _ (List.Mem.tail _ (List.Mem.tail _ (List.Mem.tail _ (List.Mem.tail _ (List.Mem.tail _ (List.Mem.head _)))))))) (by first | omega | (simp only [List.length_append, List.length_cons, List.length_nil]; omega)) (hS.fd X) ?_; clear hS; intro w hS) | refine pA_nilm hk.nb ?_ | refine pA_minv hm ?_ | (refine pN_gtr_s ?_ ?_ <;> intro hc <;> try (exfalso; omega)) | (refine pN_eql_s ?_ ?_ <;> intro hc <;> try (exfalso; first | omega | exact hc rfl | exact hc (by assumption) | exact absurd hc (by assumption))) | refine pIf_f ?_ | refine pN_l hS (by first | rfl | assumption) ?_ | refine pL_l hS (by first | rfl | assumption) ?_ | (refine pDr_go hS ?_; clear hS; intro w hS) | refine ⟨trivial, ?_⟩ | refine ⟨⟨(by first | exact run_l hS (by first | rfl | assumption) | exact run_st hS (by first | rfl | omega) | exact run_ld1 ha hS | exact fun _ => run_l hS (by rfl) | exact fun _ => run_st hS (by first | rfl | omega) | exact fun _ => run_ld1 ha hS | exact fun h => Bool.noConfusion h), (by first | exact run_l hS (by first | rfl | assumption) | exact run_st hS (by first | rfl | omega) | exact run_ld1 ha hS | exact fun _ => run_l hS (by rfl) | exact fun _ => run_st hS (by first | rfl | omega) | exact fun _ => run_ld1 ha hS | exact fun h => Bool.noConfusion h), trivial⟩, ?_⟩ | refine ⟨⟨(by first | exact run_l hS (by first | rfl | assumption) | exact run_st hS (by first | rfl | omega) | exact run_ld1 ha hS | exact fun _ => run_l hS (by rfl) | exact fun _ => run_st hS (by first | rfl | omega) | exact fun _ => run_ld1 ha hS | exact fun h => Bool.noConfusion h), (by first | exact run_l hS (by first | rfl | assumption) | exact run_st hS (by first | rfl | omega) | exact run_ld1 ha hS | exact fun _ => run_l hS (by rfl) | exact fun _ => run_st hS (by first | rfl | omega) | exact fun _ => run_ld1 ha hS | exact fun h => Bool.noConfusion h), (by first | exact run_l hS (by first | rfl | assumption) | exact run_st hS (by first | rfl | omega) | exact run_ld1 ha hS | exact fun _ => run_l hS (by rfl) | exact fun _ => run_st hS (by first | rfl | omega) | exact fun _ => run_ld1 ha hS | exact fun h => Bool.noConfusion h), trivial⟩, ?_⟩ | refine pN_fn ?_ | refine pN_via (by (intro K; simp (disch := omega) only [go_sem, pN_min, pN_max, w_u32, w_u64, Option.isNone_some, Option.isNone_none]; (try simp only [wrap_u32, wrap_u64]); rfl)) ?_ | refine pA_via (by (intro K; simp (disch := omega) only [go_sem, pN_min, pN_max, w_u32, w_u64, Option.isNone_some, Option.isNone_none]; (try simp only [wrap_u32, wrap_u64]); rfl)) ?_ | fail)
        simp only [List.append_assoc, List.cons_append, List.nil_append] at hS ⊢
        exact hS.to
  · clear hS
    rintro _ w hS
    repeat' (first | refine pL_la_at (n := 4) hS [pz (q 11), pz (q 12), pz (q 13), pz (q 14)] rfl rfl ?_ | (refine pc_lzenc_Encoder_length (length_ok hk hp 11 (.inr rfl) hl (by simp only [List.length_append, List.length_cons, List.length_nil]; omega) (hS.fd4 X (cel b) (cel t) (Win wd)) hx ?_); clear hS; intro w hS) | refine pL_l hS (by first | rfl | assumption) ?_ | (refine pDr_go hS ?_; clear hS; intro w hS) | refine ⟨trivial, ?_⟩ | refine pA_via (by (intro K; simp (disch := omega) only [go_sem, pN_min, pN_max, w_u32, w_u64, Option.isNone_some, Option.isNone_none]; (try simp only [wrap_u32, wrap_u64]); rfl)) ?_ | fail)
    exact hQ _ hS.to

theorem code_ok {y : Z.Y} (hk : Snk p q c X) (hp : p.Ok) (hs : s.Right) (hy : Z.errY y = 0)
    (hS : Sat E w (X [] :: cel b ⟨128, encCells t wd en⟩ :: cel t ⟨141, tbCells p s q⟩ :: Win wd x :: M)) (hx : x.all.length ≤ 4611686018427387904)
    (hQ : ∀ w, Sat E w (X (Z.symOps p s x y) :: cel b ⟨128, encCells t wd en⟩ :: cel t ⟨141, tbCells p s q⟩ :: Win wd x :: M) → Q (.tuple #[]) w) :
    Calls Tryz.prog 68 #[pz b, c, .agg #[.int .i64 y.Kind, bv y.Byte, .int .i64 y.Len, .int .i64 y.Dist]] w (retP Q) := by
  rcases Z.kinds hy with h | h | h | h
  · exact code1_ok hk hp hs hy h hS hx hQ
  · exact code4_ok hk hp hs hy h hS hx hQ
  · exact code2_ok hk hp hs hy h hS hx hQ
  · exact code3_ok hk hp hs hy h hS hx hQ
end

end Go.Proofs.YtbgnnjfpiblkmaaGreatDoor

namespace Go.Proofs.YtbgnnjfpiblkmaaGreatDoor
open Go
set_option linter.unusedSimpArgs false
set_option linter.unnecessarySimpa false
set_option linter.unusedSectionVars false
set_option linter.unusedVariables false
namespace Z
theorem op_wt {p : Pr} {o : Op} (h : o.Ok p) : o.wt ≤ 16 ∧ o.bits.length ≤ 32 ∧ (1 ≤ o.bits.length ∨ o.bits.length = 0) := by
  cases o with
  | bit t i b => exact ⟨Nat.le_of_ble_eq_true rfl, Nat.le_of_ble_eq_true rfl, .inl (Nat.le_refl _)⟩
  | tree t a n v =>
    have := h.2.1.2.1
    simp only [Op.wt, Op.bits, treeBits, List.length_map, List.length_range]
    omega
  | back t a n v =>
    have := h.2.1.2.1
    simp only [Op.wt, Op.bits, treeBits, List.length_map, List.length_range]
    omega
  | direct v n =>
    have := h.2.2
    simp only [Op.wt, Op.bits, List.length_map, List.length_range]
    omega
theorem wts_len {p : Pr} : ∀ {l : List Op}, (∀ o ∈ l, o.Ok p) → wts l ≤ 16 * l.length ∧ lens l ≤ 32 * l.length
  | [], _ => ⟨Nat.le_refl _, Nat.le_refl _⟩
  | o :: l, h => by
    have h1 := op_wt (h o List.mem_cons_self)
    have h2 := wts_len (l := l) fun o ho => h o (List.mem_cons_of_mem _ ho)
    simp only [wts, lens, List.map_cons, List.sum_cons, List.length_cons] at h2 ⊢
    omega
theorem pr_get {p : Pr} {T : Nat → List Int} (hT : TabOk p T) {t : Nat} (ht : t < 18) {i : Int} (h0 : 0 ≤ i) (h1 : i < tabLen p t) (b : Int) : (T t)[i.toNat]? = some (pr T ⟨t, i, b⟩) := by
  have := hT.len t ht
  rw [pr, List.getD_eq_getElem?_getD, List.getElem?_eq_getElem (show i.toNat < (T t).length by omega)]; rfl
theorem run_bit {t : Nat} (ht : t < 18) (z : ES) (i b : Int) : run z (Op.bit t i b).bits = ⟨z.s.cut (B.bound z.s.R (pr z.T ⟨t, i, b⟩)) b, upd z.T t ((z.T t).set i.toNat (B.next (pr z.T ⟨t, i, b⟩) b))⟩ := by
  have hne : t ≠ 18 := by omega
  simp only [Op.bits, run, List.foldl_cons, List.foldl_nil, stepB, turn, hne, if_false]
end Z

def codX (p : Z.Pr) (en : Nat) (q : Nat → Nat) (z : Z.ES) (l : List Z.Op) : HA := fun h => (∀ o ∈ l, o.Ok p) ∧ Sats [Enc en (Z.runO z l).s, tabs q (Z.runO z l).T] h
def cstX (p : Z.Pr) (a : Nat) (q : Nat → Nat) (T : Nat → List Int) (l : List Z.Op) : HA := fun h => (∀ o ∈ l, o.Ok p) ∧ Sats [cel a ⟨155, [.int .i64 (Z.costO T l)]⟩, tabs q T] h

section
variable {E w : World} {M : List HA} {p : Z.Pr} {en a : Nat} {q : Nat → Nat} {z : Z.ES} {T : Nat → List Int} {l : List Z.Op}
theorem codX.opn (hS : Sat E w (codX p en q z l :: M)) : (∀ o ∈ l, o.Ok p) ∧ Sat E w (Enc en (Z.runO z l).s :: tabs q (Z.runO z l).T :: M) := by
  obtain ⟨h1, ⟨hA, _⟩, _⟩ := hS.head
  exact ⟨hA, hS.open_ (M := [_, _]) fun _ h => h.2⟩
theorem codX.shut {m : List Z.Op} (hm : ∀ o ∈ m, o.Ok p) {s : R.S} {T : Nat → List Int} (hS : Sat E w (Enc en s :: tabs q T :: M)) (hs : Z.runO z m = ⟨s, T⟩) : Sat E w (codX p en q z m :: M) := by
  refine Sat.shut (M := [_, _]) hS fun _ h => ⟨hm, ?_⟩
  rw [hs]; exact h
theorem cstX.opn (hS : Sat E w (cstX p a q T l :: M)) : (∀ o ∈ l, o.Ok p) ∧ Sat E w (cel a ⟨155, [.int .i64 (Z.costO T l)]⟩ :: tabs q T :: M) := by
  obtain ⟨h1, ⟨hA, _⟩, _⟩ := hS.head
  exact ⟨hA, hS.open_ (M := [_, _]) fun _ h => h.2⟩
theorem cstX.shut {m : List Z.Op} (hm : ∀ o ∈ m, o.Ok p) {v : Int} (hS : Sat E w (cel a ⟨155, [.int .i64 v]⟩ :: tabs q T :: M)) (hv : v = Z.costO T m) : Sat E w (cstX p a q T m :: M) := by
  subst hv
  exact Sat.shut (M := [_, _]) hS fun _ h => ⟨hm, h⟩
theorem snoc_ok {o : Z.Op} (h : ∀ o ∈ l, o.Ok p) (ho : o.Ok p) : ∀ x ∈ l ++ [o], x.Ok p := fun x hx => by
  rcases List.mem_append.1 hx with hx | hx
  · exact h x hx
  · rw [List.mem_singleton.1 hx]; exact ho
end
attribute [local irreducible] oMv oV oU oCall oCallV oBi oBin oUn oLoad oStore oNil oFld oField oIdx oIndex oPick oAlloc oBox oBuild oBs oConv oMk oSl oExt oFn oIface oMap oLook oMapUp oRange oNext oEntry oInv oAssert oPanic oRes pN pA pL pDr pIf gA pGd

section
variable {E w : World} {M : List HA} {p : Z.Pr} {en a : Nat} {q : Nat → Nat} {z : Z.ES} {T : Nat → List Int} {l : List Z.Op} {K : Value → World → Prop}

theorem cod_z (hz : z.Ok p) (hzk : z.s.k + 1000 ≤ 140737488355328) (hl : l.length ≤ 20) (h : ∀ o ∈ l, o.Ok p) : (Z.runO z l).Ok p ∧ (Z.runO z l).s.k + 600 ≤ 140737488355328 := by
  have h1 := Z.ops_ok hz h
  have h2 := Z.wts_len h
  exact ⟨h1.1, by omega⟩

set_option maxRecDepth 8000 in
set_option maxHeartbeats 400000 in
theorem cod_snk (hp : p.Ok) (hz : z.Ok p) (hzk : z.s.k + 1000 ≤ 140737488355328) : Snk p q (codingV en) (codX p en q z) where
  nb := cod_nb en
  nt := cod_nt en
  nk := cod_nk en
  nd := cod_nd en
  bit {E w M K l} t i b ho hl hS hK := by
    refine inv_cod_bit (lzenc_coding_bit.calls ?_)
    unfold lzenc_coding_bit.F
    obtain ⟨hm, hS⟩ := codX.opn hS
    obtain ⟨hzl, hkl⟩ := cod_z hz hzk hl hm
    generalize hzz : Z.runO z l = zz at *
    have ho' := ho
    obtain ⟨ht, i0, i1, b0, b1⟩ := ho'
    have hS := tabs_out (hS.perm (List.Perm.swap _ _ _)) t ht
    repeat' (first | (refine pc_rcenc_Encoder_Bit (Bit_in (hS.fd2 (Enc en) (PSet (q t))) (hzl.T.fine t) (by omega) i b i0 (Z.pr_get hzl.T ht i0 i1 b) ?_); clear hS; intro w hS) | refine pN_l hS (by first | rfl | assumption) ?_ | (refine pN_bx hS (by rfl) ?_; clear hS; intro a w hS) | refine pN_via (by (intro K; simp (disch := omega) only [go_sem, pN_min, pN_max, w_u32, w_u64, Option.isNone_some, Option.isNone_none]; (try simp only [wrap_u32, wrap_u64]); rfl)) ?_ | fail)
    have hS := tabs_into (hS.fd2 (PSet (q t)) (tabsBut q zz.T)) ht
    refine hK _ (codX.shut (z := z) (snoc_ok hm ho) (hS.fd (Enc en)) ?_).to
    rw [Z.runO_snoc, hzz, Z.run_bit ht]
  tree {E w M K l} t at_ n m v hmn ho hl hS hK := by
    subst hmn
    refine inv_cod_tree (lzenc_coding_tree.calls ?_)
    unfold lzenc_coding_tree.F
    obtain ⟨hm, hS⟩ := codX.opn hS
    obtain ⟨hzl, hkl⟩ := cod_z hz hzk hl hm
    generalize hzz : Z.runO z l = zz at *
    have ho' := ho
    obtain ⟨ht, hth, hh⟩ := ho'
    have hlen := hzl.T.len t ht
    rw [← hlen] at hth
    have hbd : (zz.T t).length ≤ 1048576 := by rw [hlen]; exact Nat.le_trans (Z.tabLen_bd hp t) (by decide)
    have hk1 : zz.s.k + 100 ≤ 140737488355328 := by omega
    clear hlen
    have hS := tabs_out (hS.perm (List.Perm.swap _ _ _)) t ht
    repeat' (first | refine pN_l hS (by first | rfl | assumption) ?_ | (refine pN_bx hS (by rfl) ?_; clear hS; intro a w hS) | refine pN_via (by (intro K; simp (disch := omega) only [go_sem, pN_min, pN_max, w_u32, w_u64, Option.isNone_some, Option.isNone_none]; (try simp only [wrap_u32, wrap_u64]); rfl)) ?_ | fail)
    refine pc_tree_Put (Put_in (hS.fd2 (Enc en) (PSet (q t))) hzl.s (hzl.T.fine t) hk1 at_ n v hbd hth hh fun w hS => ?_)
    skip
    simp only [Int.toNat_natCast] at hS
    have hS := tabs_into (hS.fd2 (PSet (q t)) (tabsBut q zz.T)) ht
    refine hK _ (codX.shut (z := z) (snoc_ok hm ho) (hS.fd (Enc en)) ?_).to
    rw [Z.runO_snoc, hzz]
    exact Z.run_treeBits ht _ at_ (R.bitAt false n v) n
  back {E w M K l} t at_ n m v hmn ho hl hS hK := by
    subst hmn
    refine inv_cod_back (lzenc_coding_back.calls ?_)
    unfold lzenc_coding_back.F
    obtain ⟨hm, hS⟩ := codX.opn hS
    obtain ⟨hzl, hkl⟩ := cod_z hz hzk hl hm
    generalize hzz : Z.runO z l = zz at *
    have ho' := ho
    obtain ⟨ht, hth, hh⟩ := ho'
    have hlen := hzl.T.len t ht
    rw [← hlen] at hth
    have hbd : (zz.T t).length ≤ 1048576 := by rw [hlen]; exact Nat.le_trans (Z.tabLen_bd hp t) (by decide)
    have hk1 : zz.s.k + 100 ≤ 140737488355328 := by omega
    clear hlen
    have hS := tabs_out (hS.perm (List.Perm.swap _ _ _)) t ht
    repeat' (first | refine pN_l hS (by first | rfl | assumption) ?_ | (refine pN_bx hS (by rfl) ?_; clear hS; intro a w hS) | refine pN_via (by (intro K; simp (disch := omega) only [go_sem, pN_min, pN_max, w_u32, w_u64, Option.isNone_some, Option.isNone_none]; (try simp only [wrap_u32, wrap_u64]); rfl)) ?_ | fail)
    refine pc_tree_PutBack (PutBack_in (hS.fd2 (Enc en) (PSet (q t))) hzl.s (hzl.T.fine t) hk1 at_ n v hbd hth hh fun w hS => ?_)
    skip
    simp only [Int.toNat_natCast] at hS
    have hS := tabs_into (hS.fd2 (PSet (q t)) (tabsBut q zz.T)) ht
    refine hK _ (codX.shut (z := z) (snoc_ok hm ho) (hS.fd (Enc en)) ?_).to
    rw [Z.runO_snoc, hzz]
    exact Z.run_treeBits ht _ at_ (R.bitAt true n v) n
  direct {E w M K l} v n m hmn ho hl hS hK := by
    subst hmn
    refine inv_cod_direct (lzenc_coding_direct.calls ?_)
    unfold lzenc_coding_direct.F
    obtain ⟨hm, hS⟩ := codX.opn hS
    obtain ⟨hzl, hkl⟩ := cod_z hz hzk hl hm
    generalize hzz : Z.runO z l = zz at *
    have ho' := ho
    obtain ⟨v0, v1, hn⟩ := ho'
    repeat' (first | (refine pc_rcenc_Encoder_Direct (Direct_in (hS.fd (Enc en)) (by omega) v n v0 v1 hn ?_); clear hS; intro w hS) | refine pN_l hS (by first | rfl | assumption) ?_ | (refine pN_bx hS (by rfl) ?_; clear hS; intro a w hS) | refine pN_via (by (intro K; simp (disch := omega) only [go_sem, pN_min, pN_max, w_u32, w_u64, Option.isNone_some, Option.isNone_none]; (try simp only [wrap_u32, wrap_u64]); rfl)) ?_ | fail)
    refine hK _ (codX.shut (z := z) (snoc_ok hm ho) (show Sat E w (Enc en (zz.s.direct v n) :: tabs q zz.T :: M) from hS.to) ?_)
    rw [Z.runO_snoc, hzz, Z.run_direct]

end

end Go.Proofs.YtbgnnjfpiblkmaaGreatDoor

namespace Go.Proofs.YtbgnnjfpiblkmaaGreatDoor
open Go
set_option linter.unusedSimpArgs false
set_option linter.unnecessarySimpa false
set_option linter.unusedSectionVars false
set_option linter.unusedVariables false
namespace Z
structure EZ where
  p : Pr
  st : St
  T : Nat → List Int
  x : W
  s : R.S
structure EZ.Ok (e : EZ) : Prop where
  p : e.p.Ok
  st : e.st.Right
  T : TabOk e.p e.T
  s : R.Ok e.s
def EZ.may (e : EZ) (y : Y) : Int := Z.may e.x e.st y
def EZ.ops (e : EZ) (y : Y) : List Op := symOps e.p e.st e.x y
def EZ.es (e : EZ) (y : Y) : ES := runO ⟨e.s, e.T⟩ (e.ops y)
def EZ.put1 (e : EZ) (y : Y) : EZ := ⟨e.p, e.st.next y, (e.es y).T, e.x.put (made e.x e.st y), (e.es y).s⟩
def EZ.put (e : EZ) (y : Y) : EZ := if e.may y = 0 then e.put1 y else e
def EZ.cost (e : EZ) (y : Y) : Int := if e.may y = 0 then costO e.T (e.ops y) else 0
def EZ.new (p : Pr) (dict : Int) : EZ := ⟨p, St.new, T0 p, ⟨dict, []⟩, R.S.new⟩
def EZ.cut (e : EZ) : EZ := ⟨e.p, e.st, e.T, e.x, R.S.new⟩
def EZ.clear (e : EZ) : EZ := ⟨e.p, St.new, T0 e.p, ⟨e.x.size, []⟩, e.s⟩
def EZ.raw (e : EZ) (b : List UInt8) : EZ := ⟨e.p, e.st, e.T, e.x.put b, e.s⟩
theorem EZ.Ok.new {p : Pr} (h : p.Ok) (d : Int) : (EZ.new p d).Ok := ⟨h, St.Right.new, TabOk.new p, R.Ok.new⟩
theorem EZ.Ok.put1 {e : EZ} (h : e.Ok) {y : Y} (hm : e.may y = 0) : (e.put1 y).Ok ∧ (e.put1 y).s.k ≤ e.s.k + 26 := by
  have hy := may_err hm
  have ho := symOps_ok h.p h.st e.x hy
  have h1 := ops_ok (z := ⟨e.s, e.T⟩) ⟨h.s, h.T⟩ ho.ok
  have hw := ho.wt
  exact ⟨⟨h.p, h.st.next hy, h1.1.T, h1.1.s⟩, Nat.le_trans h1.2 (Nat.add_le_add_left hw _)⟩
theorem EZ.Ok.put {e : EZ} (h : e.Ok) (y : Y) : (e.put y).Ok ∧ (e.put y).s.k ≤ e.s.k + 26 := by
  unfold EZ.put
  split
  · exact h.put1 (by assumption)
  · exact ⟨h, by omega⟩
theorem EZ.put_len {e : EZ} (y : Y) : (e.put y).x.all.length ≤ e.x.all.length + 273 := by
  unfold EZ.put
  split
  · rename_i hm
    have hy := may_err hm
    have := made_len (x := e.x) (s := e.st) hy
    have := size_bd hy
    simp only [EZ.put1, List.length_append]
    omega
  · omega
theorem EZ.Ok.cut {e : EZ} (h : e.Ok) : e.cut.Ok := ⟨h.p, h.st, h.T, R.Ok.new⟩
theorem EZ.Ok.clear {e : EZ} (h : e.Ok) : e.clear.Ok := ⟨h.p, St.Right.new, TabOk.new _, h.s⟩
theorem EZ.Ok.raw {e : EZ} (h : e.Ok) (b : List UInt8) : (e.raw b).Ok := ⟨h.p, h.st, h.T, h.s⟩
end Z
attribute [local irreducible] oMv oV oU oCall oCallV oBi oBin oUn oLoad oStore oNil oFld oField oIdx oIndex oPick oAlloc oBox oBuild oBs oConv oMk oSl oExt oFn oIface oMap oLook oMapUp oRange oNext oEntry oInv oAssert oPanic oRes pN pA pL pDr pIf gA pGd

section
variable {E w W : World} {M N : List HA} {Q : Value → World → Prop} {p : Z.Pr} {s : Z.St} {x : Z.W} {b t wd en : Nat} {q : Nat → Nat} {y : Z.Y}

theorem Last_e (hS : Sat E w (Win b x :: M)) (d : Int) (hQ : ∀ c w, Sat E w (Win b x :: M) → Q (.tuple #[bv c, .int .i64 (if x.has d then 0 else 7)]) w) :
    Calls Tryz.prog 101 #[.pointer (some ⟨b, 0, none⟩), .int .i64 d] w (retP Q) := by
  by_cases h : x.has d
  · rw [if_pos h] at hQ; exact Last_in hS d h fun w hS => hQ _ w hS
  · rw [if_neg h] at hQ; exact Last_no hS d h fun w hS => hQ _ w hS

set_option maxHeartbeats 4000000 in
theorem may_ok (hG : Glo W) (hs : s.Right) (hS : Sat E w (cel b ⟨128, encCells t wd en⟩ :: cel t ⟨141, tbCells p s q⟩ :: Win wd x :: M)) [h : Has (old W) M N]
    (hQ : ∀ w, Sat E w (cel b ⟨128, encCells t wd en⟩ :: cel t ⟨141, tbCells p s q⟩ :: Win wd x :: M) → Q (.int .i64 (Z.may x s y)) w) :
    Calls Tryz.prog 67 #[pz b, .agg #[.int .i64 y.Kind, bv y.Byte, .int .i64 y.Len, .int .i64 y.Dist]] w (retP Q) := by
  refine lzenc_Encoder_may.calls ?_
  unfold lzenc_Encoder_may.F
  by_cases hy : Z.errY y = 0
  · repeat' (first | refine pL_la_at (n := 5) hS s.cells rfl rfl ?_ | refine pL_l hS (by first | rfl | assumption) ?_ | refine pL_la hS (by rfl) ?_ | (refine pDr_go hS ?_; clear hS; intro w hS) | (refine pN_bx hS (by rfl) ?_; clear hS; intro a w hS) | refine pA_via (by (intro K; simp (disch := omega) only [go_sem, pN_min, pN_max, w_u32, w_u64, Option.isNone_some, Option.isNone_none]; (try simp only [wrap_u32, wrap_u64]); rfl)) ?_ | fail)
    refine ⟨?_, ?_⟩
    · repeat' (first | (refine pc_state_State_Next (Next_in hG hS hs hy ?_); clear hS; intro w hS) | (refine pN_neq_s ?_ ?_ <;> intro hc <;> try (exfalso; first | omega | exact hc rfl | exact hc (by assumption) | exact absurd hc (by assumption))) | refine pIf_f ?_ | (refine pN_sa hS (by rfl) (by rfl) (by rfl) ?_; clear hS; intro w hS; try dsimp only at hS) | (refine pN_nz hS ?_; clear hS; intro a w hS) | refine ⟨trivial, ?_⟩ | refine pA_via (by (intro K; simp (disch := omega) only [go_sem, pN_min, pN_max, w_u32, w_u64, Option.isNone_some, Option.isNone_none]; (try simp only [wrap_u32, wrap_u64]); rfl)) ?_ | fail)
      refine ⟨fun v w => v = .int .i64 (Z.dist s y) ∧ y.Kind ≠ 1 ∧ Sat E w (cel b ⟨128, encCells t wd en⟩ :: cel t ⟨141, tbCells p s q⟩ :: Win wd x :: M), ?_, ?_⟩
      · rcases Z.kinds hy with hk | hk | hk | hk
        · repeat' (first | (refine pN_eql_s ?_ ?_ <;> intro hc <;> try (exfalso; first | omega | exact hc rfl | exact hc (by assumption) | exact absurd hc (by assumption))) | refine pIf_t ?_ | refine pN_l hS (by first | rfl | assumption) ?_ | refine pN_via (by (intro K; simp (disch := omega) only [go_sem, pN_min, pN_max, w_u32, w_u64, Option.isNone_some, Option.isNone_none]; (try simp only [wrap_u32, wrap_u64]); rfl)) ?_ | fail)
          rw [Z.may, if_neg (by omega), if_pos hk] at hQ
          exact hQ _ hS.to
        · repeat' (first | (refine pN_eql_s ?_ ?_ <;> intro hc <;> try (exfalso; first | omega | exact hc rfl | exact hc (by assumption) | exact absurd hc (by assumption))) | refine pIf_t ?_ | refine pIf_f ?_ | refine pN_l hS (by first | rfl | assumption) ?_ | refine pN_via (by (intro K; simp (disch := omega) only [go_sem, pN_min, pN_max, w_u32, w_u64, Option.isNone_some, Option.isNone_none]; (try simp only [wrap_u32, wrap_u64]); rfl)) ?_ | fail)
          exact ⟨by rw [Z.dist, if_neg (by omega), if_neg (by omega)], by omega, hS.to⟩
        · repeat' (first | (refine pN_eql_s ?_ ?_ <;> intro hc <;> try (exfalso; first | omega | exact hc rfl | exact hc (by assumption) | exact absurd hc (by assumption))) | refine pIf_t ?_ | refine pIf_f ?_ | refine pN_l hS (by first | rfl | assumption) ?_ | refine pN_via (by (intro K; simp (disch := omega) only [go_sem, pN_min, pN_max, w_u32, w_u64, Option.isNone_some, Option.isNone_none]; (try simp only [wrap_u32, wrap_u64]); rfl)) ?_ | fail)
          exact ⟨by rw [Z.dist, if_pos (by omega)], by omega, hS.to⟩
        · have hd := Z.err_rep hy hk
          have h4 : y.Dist = 0 ∨ y.Dist = 1 ∨ y.Dist = 2 ∨ y.Dist = 3 := by omega
          rw [Z.dist, if_neg (by omega), if_pos hk]
          rcases h4 with h4 | h4 | h4 | h4
          all_goals
            rw [h4] at hS
            try rw [h4]
            simp only [Z.rep0, Z.rep1, Z.rep2, Z.rep3]
            repeat' (first | (refine pN_eql_s ?_ ?_ <;> intro hc <;> try (exfalso; first | omega | exact hc rfl | exact hc (by assumption) | exact absurd hc (by assumption))) | refine pIf_t ?_ | refine pIf_f ?_ | refine pN_l hS (by first | rfl | assumption) ?_ | refine pL_l hS (by first | rfl | assumption) ?_ | (refine pDr_go hS ?_; clear hS; intro w hS) | refine pN_via (by (intro K; simp (disch := omega) only [go_sem, pN_min, pN_max, w_u32, w_u64, Option.isNone_some, Option.isNone_none]; (try simp only [wrap_u32, wrap_u64]); rfl)) ?_ | refine pA_via (by (intro K; simp (disch := omega) only [go_sem, pN_min, pN_max, w_u32, w_u64, Option.isNone_some, Option.isNone_none]; (try simp only [wrap_u32, wrap_u64]); rfl)) ?_ | fail)
            exact ⟨rfl, by omega, hS.to⟩
      · clear hS
        rintro _ _ w ⟨rfl, hk, hS⟩
        rw [Z.may, if_neg (by omega), if_neg hk] at hQ
        repeat' (first | (refine pc_window_Window_Last (Last_e (hS.fd (Win wd)) _ ?_); clear hS; intro c w hS) | refine pN_l hS (by first | rfl | assumption) ?_ | refine pN_via (by (intro K; simp (disch := omega) only [go_sem, pN_min, pN_max, w_u32, w_u64, Option.isNone_some, Option.isNone_none]; (try simp only [wrap_u32, wrap_u64]); rfl)) ?_ | fail)
        exact hQ _ hS.to
    · repeat' (first | refine ⟨⟨run_la_at hS _ (by rfl) (by rfl), run_la_at (n := 5) hS s.cells rfl rfl, run_l hS (by rfl), trivial⟩, ?_⟩ | (refine pc_state_State_Next (Next_in hG hS hs hy ?_); clear hS; intro w hS) | (refine pN_neq_s ?_ ?_ <;> intro hc <;> try (exfalso; first | omega | exact hc rfl | exact hc (by assumption) | exact absurd hc (by assumption))) | refine pIf_f ?_ | (refine pN_sa hS (by rfl) (by rfl) (by rfl) ?_; clear hS; intro w hS; try dsimp only at hS) | (refine pN_nz hS ?_; clear hS; intro a w hS) | refine ⟨trivial, ?_⟩ | refine pA_via (by (intro K; simp (disch := omega) only [go_sem, pN_min, pN_max, w_u32, w_u64, Option.isNone_some, Option.isNone_none]; (try simp only [wrap_u32, wrap_u64]); rfl)) ?_ | fail)
      refine ⟨fun v w => v = .int .i64 (Z.dist s y) ∧ y.Kind ≠ 1 ∧ Sat E w (cel b ⟨128, encCells t wd en⟩ :: cel t ⟨141, tbCells p s q⟩ :: Win wd x :: M), ?_, ?_⟩
      · rcases Z.kinds hy with hk | hk | hk | hk
        · repeat' (first | (refine pN_eql_s ?_ ?_ <;> intro hc <;> try (exfalso; first | omega | exact hc rfl | exact hc (by assumption) | exact absurd hc (by assumption))) | refine pIf_t ?_ | refine pN_l hS (by first | rfl | assumption) ?_ | refine pN_via (by (intro K; simp (disch := omega) only [go_sem, pN_min, pN_max, w_u32, w_u64, Option.isNone_some, Option.isNone_none]; (try simp only [wrap_u32, wrap_u64]); rfl)) ?_ | fail)
          rw [Z.may, if_neg (by omega), if_pos hk] at hQ
          exact hQ _ hS.to
        · repeat' (first | (refine pN_eql_s ?_ ?_ <;> intro hc <;> try (exfalso; first | omega | exact hc rfl | exact hc (by assumption) | exact absurd hc (by assumption))) | refine pIf_t ?_ | refine pIf_f ?_ | refine pN_l hS (by first | rfl | assumption) ?_ | refine pN_via (by (intro K; simp (disch := omega) only [go_sem, pN_min, pN_max, w_u32, w_u64, Option.isNone_some, Option.isNone_none]; (try simp only [wrap_u32, wrap_u64]); rfl)) ?_ | fail)
          exact ⟨by rw [Z.dist, if_neg (by omega), if_neg (by omega)], by omega, hS.to⟩
        · repeat' (first | (refine pN_eql_s ?_ ?_ <;> intro hc <;> try (exfalso; first | omega | exact hc rfl | exact hc (by assumption) | exact absurd hc (by assumption))) | refine pIf_t ?_ | refine pIf_f ?_ | refine pN_l hS (by first | rfl | assumption) ?_ | refine pN_via (by (intro K; simp (disch := omega) only [go_sem, pN_min, pN_max, w_u32, w_u64, Option.isNone_some, Option.isNone_none]; (try simp only [wrap_u32, wrap_u64]); rfl)) ?_ | fail)
          exact ⟨by rw [Z.dist, if_pos (by omega)], by omega, hS.to⟩
        · have hd := Z.err_rep hy hk
          have h4 : y.Dist = 0 ∨ y.Dist = 1 ∨ y.Dist = 2 ∨ y.Dist = 3 := by omega
          rw [Z.dist, if_neg (by omega), if_pos hk]
          rcases h4 with h4 | h4 | h4 | h4
          all_goals
            rw [h4] at hS
            try rw [h4]
            simp only [Z.rep0, Z.rep1, Z.rep2, Z.rep3]
            repeat' (first | (refine pN_eql_s ?_ ?_ <;> intro hc <;> try (exfalso; first | omega | exact hc rfl | exact hc (by assumption) | exact absurd hc (by assumption))) | refine pIf_t ?_ | refine pIf_f ?_ | refine pN_l hS (by first | rfl | assumption) ?_ | refine pL_l hS (by first | rfl | assumption) ?_ | (refine pDr_go hS ?_; clear hS; intro w hS) | refine pN_via (by (intro K; simp (disch := omega) only [go_sem, pN_min, pN_max, w_u32, w_u64, Option.isNone_some, Option.isNone_none]; (try simp only [wrap_u32, wrap_u64]); rfl)) ?_ | refine pA_via (by (intro K; simp (disch := omega) only [go_sem, pN_min, pN_max, w_u32, w_u64, Option.isNone_some, Option.isNone_none]; (try simp only [wrap_u32, wrap_u64]); rfl)) ?_ | fail)
            exact ⟨rfl, by omega, hS.to⟩
      · clear hS
        rintro _ _ w ⟨rfl, hk, hS⟩
        rw [Z.may, if_neg (by omega), if_neg hk] at hQ
        repeat' (first | (refine pc_window_Window_Last (Last_e (hS.fd (Win wd)) _ ?_); clear hS; intro c w hS) | refine pN_l hS (by first | rfl | assumption) ?_ | refine pN_via (by (intro K; simp (disch := omega) only [go_sem, pN_min, pN_max, w_u32, w_u64, Option.isNone_some, Option.isNone_none]; (try simp only [wrap_u32, wrap_u64]); rfl)) ?_ | fail)
        exact hQ _ hS.to
  · have e7 : Z.may x s y = Z.errY y := by rw [Z.may, if_pos (by omega)]
    rw [e7] at hQ
    repeat' (first | refine pL_la_at (n := 5) hS s.cells rfl rfl ?_ | refine pL_l hS (by first | rfl | assumption) ?_ | refine pL_la hS (by rfl) ?_ | (refine pDr_go hS ?_; clear hS; intro w hS) | (refine pN_bx hS (by rfl) ?_; clear hS; intro a w hS) | refine pA_via (by (intro K; simp (disch := omega) only [go_sem, pN_min, pN_max, w_u32, w_u64, Option.isNone_some, Option.isNone_none]; (try simp only [wrap_u32, wrap_u64]); rfl)) ?_ | fail)
    refine ⟨?_, ?_⟩
    · repeat' (first | (refine pc_state_State_Next (Next_no hS hs hy ?_); clear hS; intro w hS) | (refine pN_neq_s ?_ ?_ <;> intro hc <;> try (exfalso; first | omega | exact hc rfl | exact hc (by assumption) | exact absurd hc (by assumption))) | refine pIf_t ?_ | (refine pN_sa hS (by rfl) (by rfl) (by rfl) ?_; clear hS; intro w hS; try dsimp only at hS) | (refine pN_nz hS ?_; clear hS; intro a w hS) | refine ⟨trivial, ?_⟩ | refine pA_via (by (intro K; simp (disch := omega) only [go_sem, pN_min, pN_max, w_u32, w_u64, Option.isNone_some, Option.isNone_none]; (try simp only [wrap_u32, wrap_u64]); rfl)) ?_ | fail)
      exact hQ _ hS.to
    · repeat' (first | refine ⟨⟨run_la_at hS _ (by rfl) (by rfl), run_la_at (n := 5) hS s.cells rfl rfl, run_l hS (by rfl), trivial⟩, ?_⟩ | (refine pc_state_State_Next (Next_no hS hs hy ?_); clear hS; intro w hS) | (refine pN_neq_s ?_ ?_ <;> intro hc <;> try (exfalso; first | omega | exact hc rfl | exact hc (by assumption) | exact absurd hc (by assumption))) | refine pIf_t ?_ | (refine pN_sa hS (by rfl) (by rfl) (by rfl) ?_; clear hS; intro w hS; try dsimp only at hS) | (refine pN_nz hS ?_; clear hS; intro a w hS) | refine ⟨trivial, ?_⟩ | refine pA_via (by (intro K; simp (disch := omega) only [go_sem, pN_min, pN_max, w_u32, w_u64, Option.isNone_some, Option.isNone_none]; (try simp only [wrap_u32, wrap_u64]); rfl)) ?_ | fail)
      exact hQ _ hS.to
end

end Go.Proofs.YtbgnnjfpiblkmaaGreatDoor

namespace Go.Proofs.YtbgnnjfpiblkmaaGreatDoor
open Go
set_option linter.unusedSimpArgs false
set_option linter.unnecessarySimpa false
set_option linter.unusedSectionVars false
set_option linter.unusedVariables false
namespace Z

theorem bitsRd_ok {p : Pr} {t : Nat} {at_ : Int} {N : Nat} (ht : t < 18) (h0 : 0 ≤ at_) (h1 : at_ + 2 ^ N ≤ tabLen p t) : ∀ (n : Nat) {l : List Int}, R.Bits l → l.length + n = N → (bitsRd t at_ n l).Ok p
  | 0, _, _, _ => trivial
  | n + 1, l, hb, hl => by
    have hn := R.nodeL_bd hb
    have p1 : (2 : Int) ^ (l.length + 1) ≤ 2 ^ N := two_le' (by omega)
    have p2 : (0 : Int) < 2 ^ l.length := Int.pow_pos (by omega)
    exact ⟨.inr ⟨ht, by omega, by omega⟩, fun b h => bitsRd_ok ht h0 h1 n (hb.snoc h) (by rw [List.length_append, List.length_cons, List.length_nil]; omega)⟩
theorem treeRd_ok {p : Pr} {back : Bool} {t : Nat} {at_ : Int} {n : Nat} (ht : t < 18) (h0 : 0 ≤ at_) (h1 : at_ + 2 ^ n ≤ tabLen p t) : (treeRd back t at_ n).Ok p :=
  (bitsRd_ok ht h0 h1 n (fun _ h => by cases h) (by simp)).map
theorem dirRd_ok {p : Pr} : ∀ (n : Nat) {v : Int}, (dirRd n v).Ok p
  | 0, _ => trivial
  | n + 1, _ => ⟨.inl rfl, fun _ _ => dirRd_ok n⟩
theorem litGoRd_ok {p : Pr} {f t : Int} (hf : 0 ≤ f ∧ f + 768 ≤ tabLen p 6) : ∀ (i : Nat) {m : Int} {same : Bool}, i ≤ 8 → 1 ≤ m → m < 2 ^ (9 - i) → (litGoRd f t i m same).Ok p
  | 0, _, _, _, _, _ => trivial
  | i + 1, m, same, hi, h1, h2 => by
    have e : 9 - i = (9 - (i + 1)) + 1 := by omega
    have hm : m < 256 := by
      have : (2 : Int) ^ (9 - (i + 1)) ≤ 2 ^ 8 := two_le' (by omega)
      have e8 : (2 : Int) ^ 8 = 256 := by decide
      omega
    refine ⟨.inr ⟨by decide, by split <;> omega, by split <;> omega⟩, fun b hb => litGoRd_ok hf i (by omega) (by omega) ?_⟩
    rw [e, Int.pow_succ]
    omega
theorem litRd_ok {p : Pr} (hp : p.Ok) (s : St) (x : W) : (litRd p s x).Ok p := by
  have hl := (lastOr x 1).toNat_lt
  have hc := context_bd hp x.all.length (lastOr x 1).toNat (by omega) (by omega)
  have e8 : (2 : Int) ^ 8 = 256 := by decide
  unfold litRd
  split
  · exact treeRd_ok (by decide) hc.1 (by omega)
  · exact litGoRd_ok hc 8 (by omega) (by omega) (by decide)
theorem lenRd_ok {p : Pr} (hp : p.Ok) {c : Nat} (hc : c = 7 ∨ c = 11) (pos : Int) : (lenRd c p pos).Ok p := by
  obtain ⟨t0, t1, t2, t3⟩ := tab_c p c hc
  have hpl := place_bd hp pos
  have e3 : (2 : Int) ^ 3 = 8 := by decide
  have e8 : (2 : Int) ^ 8 = 256 := by decide
  refine ⟨.inr ⟨by omega, by omega, by omega⟩, fun b hb => ?_⟩
  rcases hb with rfl | rfl
  · exact (treeRd_ok (by omega) (by omega) (by omega)).map
  · refine ⟨.inr ⟨by omega, by omega, by omega⟩, fun b hb => ?_⟩
    rcases hb with rfl | rfl
    · exact (treeRd_ok (by omega) (by omega) (by omega)).map
    · exact (treeRd_ok (by omega) (by omega) (by omega)).map
theorem distRd_ok (p : Pr) {n : Int} (hn : isLen n) : (distRd n).Ok p := by
  obtain ⟨n1, n2⟩ := hn
  have e6 : (2 : Int) ^ 6 = 64 := by decide
  have e4 : (2 : Int) ^ 4 = 16 := by decide
  have t15 : tabLen p 15 = 256 := rfl
  have t16 : tabLen p 16 = 128 := rfl
  have t17 : tabLen p 17 = 16 := rfl
  refine (treeRd_ok (by decide) (by omega) (by omega)).bind fun s m hs => ?_
  obtain ⟨s0, s1, _⟩ := treeRd_path.1 hs
  rw [e6] at s1
  split
  · trivial
  · split
    · have hr := rest_law s (by omega) (by omega)
      exact (treeRd_ok (by decide) hr.1 (by omega)).map
    · exact (dirRd_ok _).bind fun h m hm => (treeRd_ok (by decide) (by omega) (by omega)).map
theorem symRd_ok {p : Pr} (hp : p.Ok) {s : St} (hs : s.Right) (x : W) : (symRd p s x).Ok p := by
  have hn := hs.num
  have hpl := place_bd hp x.all.length
  have t0 : tabLen p 0 = 192 := rfl
  have t1 : tabLen p 1 = 192 := rfl
  have t2 : tabLen p 2 = 12 := rfl
  have t3 : tabLen p 3 = 12 := rfl
  have t4 : tabLen p 4 = 12 := rfl
  have t5 : tabLen p 5 = 12 := rfl
  refine ⟨.inr ⟨by decide, by omega, by omega⟩, fun b _ => ?_⟩
  dsimp only
  split
  · exact (litRd_ok hp s x).map
  refine ⟨.inr ⟨by decide, by omega, by omega⟩, fun b _ => ?_⟩
  dsimp only
  split
  · exact (lenRd_ok hp (.inl rfl) _).bind fun n m hm => (distRd_ok p (lenRd_path.1 hm).1).map
  refine ⟨.inr ⟨by decide, by omega, by omega⟩, fun b _ => ?_⟩
  dsimp only
  split
  · refine ⟨.inr ⟨by decide, by omega, by omega⟩, fun b _ => ?_⟩
    dsimp only
    split
    · trivial
    · exact (lenRd_ok hp (.inr rfl) _).map
  refine ⟨.inr ⟨by decide, by omega, by omega⟩, fun b _ => ?_⟩
  dsimp only
  split
  · exact (lenRd_ok hp (.inr rfl) _).map
  refine ⟨.inr ⟨by decide, by omega, by omega⟩, fun b _ => ?_⟩
  exact (lenRd_ok hp (.inr rfl) _).map

structure DZ where
  p : Pr
  st : St
  T : Nat → List Int
  x : W
structure DZ.Ok (e : DZ) : Prop where
  p : e.p.Ok
  st : e.st.Right
  T : TabOk e.p e.T
def DZ.new (p : Pr) (dict : Int) : DZ := ⟨p, St.new, T0 p, ⟨dict, []⟩⟩
def DZ.clear (e : DZ) : DZ := ⟨e.p, St.new, T0 e.p, ⟨e.x.size, []⟩⟩
def DZ.raw (e : DZ) (b : List UInt8) : DZ := ⟨e.p, e.st, e.T, e.x.put b⟩
theorem DZ.Ok.new {p : Pr} (h : p.Ok) (d : Int) : (DZ.new p d).Ok := ⟨h, St.Right.new, TabOk.new p⟩
theorem DZ.Ok.clear {e : DZ} (h : e.Ok) : e.clear.Ok := ⟨h.p, St.Right.new, TabOk.new _⟩
theorem DZ.Ok.raw {e : DZ} (h : e.Ok) (b : List UInt8) : (e.raw b).Ok := ⟨h.p, h.st, h.T⟩

structure LS where
  st : St
  x : W
  z : RS
  out : List UInt8
  l : List Y
def LS.step (s : LS) (z : RS) (y : Y) : LS := ⟨s.st.next y, s.x.put (made s.x s.st y), z, s.out ++ made s.x s.st y, s.l ++ [y]⟩
def stepD (p : Pr) (n : Int) (s : LS) : Option LS :=
  match (symRd p s.st s.x).run s.z with
  | none => none
  | some (z, y) => if may s.x s.st y = 0 ∧ size y ≤ n - s.out.length then some (s.step z y) else none
def loopD (p : Pr) (n : Int) : Nat → LS → Option LS
  | 0, s => if (s.out.length : Int) < n then none else some s
  | f + 1, s => if (s.out.length : Int) < n then match stepD p n s with
    | none => none
    | some t => loopD p n f t
    else some s
def DZ.ls (e : DZ) (d : D.S) : LS := ⟨e.st, e.x, ⟨d, e.T⟩, [], []⟩
def DZ.take (e : DZ) (b : List UInt8) (n : Int) : Option (DZ × List Y × List UInt8) :=
  match D.start b with
  | .no _ => none
  | .ok d _ => match loopD e.p n n.toNat (e.ls d) with
    | none => none
    | some t => if t.z.d.k = t.z.d.b.length ∧ t.z.d.C = 0 then some (⟨e.p, t.st, t.z.T, t.x⟩, t.l, t.out) else none

structure LS.Ok (p : Pr) (s : LS) : Prop where
  st : s.st.Right
  z : s.z.Ok p
theorem stepD_some {p : Pr} {n : Int} {s t : LS} (h : stepD p n s = some t) : ∃ z y, (symRd p s.st s.x).run s.z = some (z, y) ∧ may s.x s.st y = 0 ∧ size y ≤ n - s.out.length ∧ t = s.step z y := by
  unfold stepD at h
  split at h
  · cases h
  · rename_i z y e
    split at h
    · rename_i hc
      exact ⟨z, y, e, hc.1, hc.2, by cases h; rfl⟩
    · cases h
theorem LS.Ok.step {p : Pr} (hp : p.Ok) {n : Int} {s t : LS} (hs : s.Ok p) (h : stepD p n s = some t) : t.Ok p ∧ t.z.d.b = s.z.d.b := by
  obtain ⟨z, y, h1, h2, _, rfl⟩ := stepD_some h
  obtain ⟨h3, h4⟩ := Rd.run_ok (symRd_ok hp hs.st s.x) hs.z h1
  exact ⟨⟨hs.st.next (may_err h2), h3⟩, h4⟩
theorem LS.step_len {p : Pr} {n : Int} {s t : LS} (h : stepD p n s = some t) : (s.out.length : Int) + 1 ≤ t.out.length ∧ (t.out.length : Int) ≤ n ∧ (t.out.length : Int) ≤ s.out.length + 273 ∧ t.x.all.length + s.out.length = s.x.all.length + t.out.length ∧ t.x.size = s.x.size ∧ t.l.length = s.l.length + 1 := by
  obtain ⟨z, y, h1, h2, h3, rfl⟩ := stepD_some h
  have hy := may_err h2
  have hm := made_len (x := s.x) (s := s.st) hy
  have hb := size_bd hy
  simp only [LS.step, W.put, List.length_append, List.length_cons, List.length_nil]
  and_intros <;> first | trivial | omega

def EZ.valid : EZ → List Y → Prop
  | _, [] => True
  | e, y :: ys => e.may y = 0 ∧ EZ.valid (e.put1 y) ys
def EZ.putV (e : EZ) : List Y → EZ
  | [] => e
  | y :: ys => EZ.putV (e.put1 y) ys
def EZ.outs : EZ → List Y → List UInt8
  | _, [] => []
  | e, y :: ys => made e.x e.st y ++ EZ.outs (e.put1 y) ys
theorem EZ.valid_snoc : ∀ (ys : List Y) (e : EZ) (y : Y), e.valid (ys ++ [y]) ↔ e.valid ys ∧ (e.putV ys).may y = 0
  | [], e, y => by simp [EZ.valid, EZ.putV]
  | a :: ys, e, y => by simp only [List.cons_append, EZ.valid, EZ.putV, EZ.valid_snoc ys]; exact and_assoc.symm
theorem EZ.putV_snoc : ∀ (ys : List Y) (e : EZ) (y : Y), e.putV (ys ++ [y]) = (e.putV ys).put1 y
  | [], e, y => rfl
  | a :: ys, e, y => by simp only [List.cons_append, EZ.putV, EZ.putV_snoc ys]
theorem EZ.outs_snoc : ∀ (ys : List Y) (e : EZ) (y : Y), e.outs (ys ++ [y]) = e.outs ys ++ made (e.putV ys).x (e.putV ys).st y
  | [], e, y => by simp [EZ.outs, EZ.putV]
  | a :: ys, e, y => by simp only [List.cons_append, EZ.outs, EZ.putV, EZ.outs_snoc ys, List.append_assoc]
theorem EZ.putV_p : ∀ (ys : List Y) (e : EZ), (e.putV ys).p = e.p
  | [], e => rfl
  | y :: ys, e => by rw [EZ.putV, EZ.putV_p ys]; rfl
theorem EZ.putV_x : ∀ (ys : List Y) (e : EZ), (e.putV ys).x = e.x.put (e.outs ys)
  | [], e => by simp [EZ.putV, EZ.outs, W.put]
  | y :: ys, e => by rw [EZ.putV, EZ.putV_x ys, EZ.outs]; simp [EZ.put1, W.put]
theorem EZ.Ok.putV : ∀ (ys : List Y) {e : EZ}, e.Ok → e.valid ys → (e.putV ys).Ok ∧ (e.putV ys).s.k ≤ e.s.k + 26 * ys.length
  | [], e, h, _ => ⟨h, by simp [EZ.putV]⟩
  | y :: ys, e, h, hv => by
    obtain ⟨h1, h2⟩ := h.put1 hv.1
    obtain ⟨h3, h4⟩ := EZ.Ok.putV ys h1 hv.2
    refine ⟨h3, ?_⟩
    rw [EZ.putV, List.length_cons]
    omega
def sizes (ys : List Y) : Int := (ys.map size).sum
theorem sizes_cons (y : Y) (ys : List Y) : sizes (y :: ys) = size y + sizes ys := rfl
theorem EZ.outs_len : ∀ (ys : List Y) {e : EZ}, e.valid ys → ((e.outs ys).length : Int) = sizes ys
  | [], e, _ => rfl
  | y :: ys, e, h => by
    rw [EZ.outs, List.length_append, sizes_cons, ← EZ.outs_len ys h.2]
    have := made_len (x := e.x) (s := e.st) (may_err h.1)
    omega
theorem sizes_pos : ∀ (ys : List Y) {e : EZ}, e.valid ys → (ys.length : Int) ≤ sizes ys ∧ sizes ys ≤ 273 * ys.length
  | [], e, _ => by simp [sizes]
  | y :: ys, e, h => by
    have h1 := size_bd (may_err h.1)
    have h2 := sizes_pos ys h.2
    rw [sizes_cons, List.length_cons]
    omega
def EZ.dz (e : EZ) : DZ := ⟨e.p, e.st, e.T, e.x⟩

theorem loop_twin {b : List UInt8} {n : Int} : ∀ (k : Nat) {e : EZ} {s t : LS}, e.Ok → s.st = e.st → s.x = e.x → Twin b e.s s.z.d → e.T = s.z.T → (s.out.length : Int) ≤ n → loopD e.p n k s = some t →
    ∃ ys, e.valid ys ∧ ys.map used = ys ∧ t.l = s.l ++ ys ∧ t.out = s.out ++ e.outs ys ∧ (t.out.length : Int) = n ∧ t.st = (e.putV ys).st ∧ t.x = (e.putV ys).x ∧ Twin b (e.putV ys).s t.z.d ∧ (e.putV ys).T = t.z.T := by
  intro k
  induction k with
  | zero =>
    intro e s t he h1 h2 htw hT hn h
    rw [loopD] at h
    split at h
    · cases h
    · cases h
      exact ⟨[], trivial, rfl, (List.append_nil _).symm, (List.append_nil _).symm, by omega, h1, h2, htw, hT⟩
  | succ k ih =>
    intro e s t he h1 h2 htw hT hn h
    rw [loopD] at h
    split at h
    · split at h
      · cases h
      · rename_i u hu
        have hlen := LS.step_len hu
        obtain ⟨z, y, g1, g2, g3, rfl⟩ := stepD_some hu
        rw [h1, h2] at g1 g2
        have hm : e.may y = 0 := g2
        have hy := may_err g2
        obtain ⟨l, q1, q2, q3⟩ := Rd.twin (p := e.p) _ (es := ⟨e.s, e.T⟩) (symRd_ok he.p he.st e.x) ⟨he.s, he.T⟩ htw hT g1
        obtain ⟨u1, rfl⟩ := symRd_path hy q1
        have e1 : e.es y = Z.run ⟨e.s, e.T⟩ (allBits (symOps e.p e.st e.x y)) := runO_bits _ _
        rw [← e1] at q2 q3
        obtain ⟨ys, r1, r2, r3, r4, r5, r6, r7, r8, r9⟩ := ih (e := e.put1 y) (s := s.step z y) (he.put1 hm).1 (by simp only [LS.step, EZ.put1, h1]) (by simp only [LS.step, EZ.put1, h1, h2]) q2 q3 hlen.2.1 h
        refine ⟨y :: ys, ⟨hm, r1⟩, by rw [List.map_cons, ← u1, r2], ?_, ?_, r5, r6, r7, r8, r9⟩
        · rw [r3]; simp [LS.step]
        · rw [r4]; simp [LS.step, EZ.outs, h1, h2]
    · cases h
      exact ⟨[], trivial, rfl, (List.append_nil _).symm, (List.append_nil _).symm, by omega, h1, h2, htw, hT⟩
theorem Twin.start {b : List UInt8} {d : D.S} (h : D.start b = .ok d ()) : Twin b R.S.new d := by
  obtain ⟨h1, h2, h3⟩ := D.start_ok h
  unfold D.start at h
  split at h
  · cases h
  · rename_i h5
    split at h
    · cases h
    · rename_i hc
      cases h
      refine ⟨rfl, rfl, ?_, rfl⟩
      have hb0 : b[0]? = some 0 := by
        rw [not_or] at hc
        exact Decidable.not_not.1 hc.1
      have hsplit : b.take 5 = 0 :: (b.drop 1).take 4 := by
        cases b with
        | nil => simp at hb0
        | cons x l => simp at hb0; subst hb0; rfl
      have hn := R.num_append [0] ((b.drop 1).take 4)
      simp only
      rw [hsplit]
      rw [List.singleton_append] at hn
      rw [hn, show R.num [0] = 0 from rfl, Int.zero_mul]
      rfl
theorem take_some {e : DZ} {b : List UInt8} {n : Int} {r : DZ × List Y × List UInt8} (h : e.take b n = some r) : ∃ d t, D.start b = .ok d () ∧ loopD e.p n n.toNat (e.ls d) = some t ∧ t.z.d.k = t.z.d.b.length ∧ t.z.d.C = 0 ∧ r = (⟨e.p, t.st, t.z.T, t.x⟩, t.l, t.out) := by
  unfold DZ.take at h
  split at h
  · cases h
  · rename_i d _ hd
    split at h
    · cases h
    · rename_i t ht
      split at h
      · rename_i hc
        exact ⟨d, t, hd, ht, hc.1, hc.2, by cases h; rfl⟩
      · cases h
theorem take_twin {e : EZ} (he : e.Ok) (hs : e.s = R.S.new) {b : List UInt8} {n : Int} (hn : 0 ≤ n) {r : DZ × List Y × List UInt8} (h : e.dz.take b n = some r) :
    ∃ ys, e.valid ys ∧ ys.map used = ys ∧ r = ((e.putV ys).dz, ys, e.outs ys) ∧ ((e.outs ys).length : Int) = n ∧ (e.putV ys).s.bytes = b := by
  obtain ⟨d, t, h1, h2, h3, h4, rfl⟩ := take_some h
  have htw := Twin.start h1
  rw [← hs] at htw
  obtain ⟨ys, r1, r2, r3, r4, r5, r6, r7, r8, r9⟩ := loop_twin n.toNat (e := e) he (s := e.dz.ls d) rfl rfl htw rfl (by simpa [DZ.ls] using hn) h2
  have r3 : t.l = ys := by simpa [DZ.ls] using r3
  have r4 : t.out = e.outs ys := by simpa [DZ.ls] using r4
  refine ⟨ys, r1, r2, ?_, by rw [← r4]; exact r5, ?_⟩
  · rw [r3, r4, r6, r7, ← r9]
    simp only [EZ.dz, EZ.putV_p]
  · obtain ⟨t1, t2, t4, t3⟩ := r8
    rw [h4, Int.add_zero] at t4
    have hk : t.z.d.k = b.length := by rw [h3, t1]
    rw [List.take_of_length_le (by omega)] at t4
    exact (R.digits_of (by omega) t4).symm
theorem loop_sim {p : Pr} {n : Int} {m : Nat} : ∀ (k : Nat) {s u t : LS}, s.st = u.st → s.x = u.x → s.out = u.out → s.l = u.l → D.Sim m s.z.d u.z.d → s.z.T = u.z.T → loopD p n k s = some t →
    ∃ v, loopD p n k u = some v ∧ D.Sim m t.z.d v.z.d := by
  intro k
  induction k with
  | zero =>
    intro s u t h1 h2 h3 h4 h5 h6 h
    rw [loopD] at h ⊢
    rw [← h3]
    split at h
    · cases h
    · rename_i hc
      rw [if_neg hc]
      cases h
      exact ⟨u, rfl, h5⟩
  | succ k ih =>
    intro s u t h1 h2 h3 h4 h5 h6 h
    rw [loopD] at h ⊢
    rw [← h3]
    split at h
    · rename_i hc
      rw [if_pos hc]
      split at h
      · cases h
      · rename_i s' hs'
        obtain ⟨z, y, g1, g2, g3, rfl⟩ := stepD_some hs'
        obtain ⟨w, q1, q2, q3⟩ := Rd.sim _ h5 h6 g1
        have hu : stepD p n u = some (u.step w y) := by
          unfold stepD
          rw [← h1, ← h2, q1]
          simp only
          rw [if_pos ⟨g2, by rw [← h3]; exact g3⟩]
        rw [hu]
        exact ih (by simp only [LS.step, h1]) (by simp only [LS.step, h1, h2]) (by simp only [LS.step, h1, h2, h3]) (by simp only [LS.step, h4]) q2 q3 h
    · rename_i hc
      rw [if_neg hc]
      cases h
      exact ⟨u, rfl, h5⟩
theorem take_less {e : DZ} {b : List UInt8} {m : Nat} (hm : m < b.length) {n : Int} {r : DZ × List Y × List UInt8} (h : e.take (b.take m) n = some r) : e.take b n = none := by
  obtain ⟨d, t, h1, h2, h3, h4, _⟩ := take_some h
  obtain ⟨d', h5, h6⟩ := D.start_sim h1
  obtain ⟨v, h7, h8⟩ := loop_sim (s := e.ls d) (u := e.ls d') n.toNat rfl rfl rfl rfl h6 rfl h2
  cases hr : e.take b n with
  | none => rfl
  | some r' =>
    obtain ⟨d2, v2, q1, q2, q3, q4, _⟩ := take_some hr
    rw [h5] at q1
    cases q1
    rw [h7] at q2
    cases q2
    have hb : t.z.d.b = v.z.d.b.take m := h8.b
    have hk := h8.k
    rw [h3, q3, hb, List.length_take] at hk
    have hle : v.z.d.b.length ≤ m := by omega
    have hv : v.z.d.b = b := by
      have key : ∀ (k : Nat) {s u : LS}, loopD e.p n k s = some u → u.z.d.b = s.z.d.b := by
        intro k
        induction k with
        | zero =>
          intro s u h
          rw [loopD] at h
          split at h
          · cases h
          · cases h; rfl
        | succ k ih =>
          intro s u h
          rw [loopD] at h
          split at h
          · split at h
            · cases h
            · rename_i s' hs'
              obtain ⟨z, y, g1, _, _, rfl⟩ := stepD_some hs'
              rw [ih h]
              exact Rd.run_b _ g1
          · cases h; rfl
      rw [key _ h7]
      exact (D.start_ok h5).2.1
    rw [hv] at hle
    omega

end Z
end Go.Proofs.YtbgnnjfpiblkmaaGreatDoor

namespace Go.Proofs.YtbgnnjfpiblkmaaGreatDoor
open Go
set_option linter.unusedSimpArgs false
set_option linter.unnecessarySimpa false
set_option linter.unusedSectionVars false
set_option linter.unusedVariables false
namespace Z

theorem bit_no {d : D.S} {c e : Int} (h : d.bit c = .no e) : e ≠ 0 := by
  unfold D.S.bit at h
  split at h
  · cases h
  · cases h; decide
theorem direct_no : ∀ (n : Nat) {d : D.S} {v e : Int}, d.direct v n = .no e → e ≠ 0
  | 0, d, v, e, h => by cases h
  | n + 1, d, v, e, h => by
    simp only [D.S.direct] at h
    split at h
    · cases h; decide
    · split at h
      · cases h; decide
      · exact direct_no n h
theorem ask_bitQ {z : RS} {t : Nat} {i : Int} (hne : t ≠ 18) (h : 0 ≤ i ∧ i < (z.T t).length) :
    z.ask t i = if (z.d.bitQ (z.T t) i).2.2.2 = 0 then some (⟨(z.d.bitQ (z.T t) i).1, upd z.T t (z.d.bitQ (z.T t) i).2.1⟩, (z.d.bitQ (z.T t) i).2.2.1) else none := by
  unfold RS.ask D.S.bitQ
  rw [if_neg hne, if_pos h]
  cases e : z.d.bit (B.bound z.d.R ((z.T t).getD i.toNat 0)) with
  | ok d v => simp
  | no e' =>
    have := bit_no e
    simp [this]
theorem dirRd_run : ∀ (n : Nat) {s : RS} {v : Int}, (dirRd n v).run s = match s.d.direct v n with
    | .ok d u => some (⟨d, s.T⟩, u)
    | .no _ => none
  | 0, s, v => rfl
  | n + 1, s, v => by
    simp only [dirRd, Rd.run, RS.ask, if_true, direct_1, D.S.direct]
    by_cases h : s.d.one.R ≤ s.d.one.C
    · simp only [if_pos h]
    · simp only [if_neg h]
      cases e : s.d.one.widen with
      | none => rfl
      | some d =>
        simp only [Int.mul_zero, Int.zero_add]
        exact dirRd_run n (s := ⟨d, s.T⟩) (v := 2 * v + s.d.bitAt (s.d.R / 2))
theorem dirQ_run {s : RS} {n : Nat} (hn : n ≤ 32) : (dirRd n 0).run s = if (s.d.dirQ n).2.2 = 0 then some (⟨(s.d.dirQ n).1, s.T⟩, (s.d.dirQ n).2.1) else none := by
  rw [dirRd_run]
  unfold D.S.dirQ
  rw [if_pos (show 0 ≤ (n : Int) ∧ (n : Int) ≤ 32 by omega), Int.toNat_natCast]
  cases e : s.d.direct 0 n with
  | ok d u => simp
  | no e' =>
    have := direct_no n e
    simp [this]
theorem walk_run {p : Pr} {s : RS} (hs : s.Ok p) {t : Nat} (ht : t < 18) {at_ : Int} {n : Nat} (hth : R.There (tabLen p t) at_ n) : ∀ k, k ≤ n →
    (bitsRd t at_ n []).run s = if (D.walk at_ (s.d, s.T t) k).2.2 = 0 then (bitsRd t at_ (n - k) (D.walk at_ (s.d, s.T t) k).2.1).run ⟨(D.walk at_ (s.d, s.T t) k).1.1, upd s.T t (D.walk at_ (s.d, s.T t) k).1.2⟩ else none
  | 0, _ => by
    simp only [D.walk, if_true, Nat.sub_zero, upd_same]
  | k + 1, hk => by
    rw [walk_run hs ht hth k (by omega)]
    have hz : D.AOk (s.d, s.T t) := ⟨hs.d, hs.T.fine t⟩
    obtain ⟨w1, w2, w3, w4⟩ := D.walk_ok (at_ := at_) hz k
    by_cases h0 : (D.walk at_ (s.d, s.T t) k).2.2 = 0
    · have hst := D.walk_step (at_ := at_) (z := (s.d, s.T t)) (y := (D.walk at_ (s.d, s.T t) k).1) (k := k) (l := (D.walk at_ (s.d, s.T t) k).2.1) (by rw [← h0])
      rw [if_pos h0, hst]
      generalize D.walk at_ (s.d, s.T t) k = W at *
      obtain ⟨⟨d, l⟩, bs, e⟩ := W
      dsimp only at *
      have hlen := w4 h0
      have hnd := R.nodeL_bd w3
      have hl := hs.T.len t ht
      have hl2 : l.length = (s.T t).length := w2.n
      obtain ⟨n0, n1, a0, a1, a2⟩ := hth
      rw [Int.toNat_natCast] at a2
      have p1 : (2 : Int) ^ (bs.length + 1) ≤ 2 ^ n := two_le' (by omega)
      have p2 : (0 : Int) < 2 ^ bs.length := Int.pow_pos (by omega)
      rw [show n - k = (n - (k + 1)) + 1 from by omega]
      have hr := ask_bitQ (z := ⟨d, upd s.T t l⟩) (t := t) (i := at_ + R.nodeL bs) (by omega) (by simp only [upd_self]; omega)
      simp only [bitsRd, Rd.run]
      rw [hr]
      simp only [upd_self, upd_upd]
      by_cases hb : (d.bitQ l (at_ + R.nodeL bs)).2.2.2 = 0
      · simp only [if_pos hb, if_true]
      · simp only [if_neg hb]
    · have hst := D.walk_stuck (at_ := at_) (z := (s.d, s.T t)) (k := k) h0 1
      rw [hst, if_neg h0, if_neg h0]
theorem gets_run {p : Pr} {s : RS} (hs : s.Ok p) {back : Bool} {t : Nat} (ht : t < 18) {at_ : Int} {n : Nat} (hth : R.There (tabLen p t) at_ n) :
    (treeRd back t at_ n).run s = if (D.gets (s.d, s.T t) at_ n back).2.2 = 0 then some (⟨(D.gets (s.d, s.T t) at_ n back).1.1, upd s.T t (D.gets (s.d, s.T t) at_ n back).1.2⟩, (D.gets (s.d, s.T t) at_ n back).2.1) else none := by
  have hl := hs.T.len t ht
  have h1 := walk_run hs ht hth n (Nat.le_refl _)
  rw [Nat.sub_self] at h1
  have hth2 : R.There (s.T t).length at_ n := by rw [hl]; exact hth
  rw [treeRd, Rd.map, Rd.run_bind, h1]
  unfold D.gets
  simp only [if_pos hth2, Int.toNat_natCast]
  by_cases h0 : (D.walk at_ (s.d, s.T t) n).2.2 = 0
  · simp only [if_pos h0, bitsRd, Rd.run, if_true]
  · simp only [if_neg h0]
theorem gets_bd {p : Pr} {s : RS} (hs : s.Ok p) {back : Bool} {t : Nat} (ht : t < 18) {at_ : Int} {n : Nat} (hth : R.There (tabLen p t) at_ n) :
    0 ≤ (D.gets (s.d, s.T t) at_ n back).2.1 ∧ (D.gets (s.d, s.T t) at_ n back).2.1 < 2 ^ n ∧ ((D.gets (s.d, s.T t) at_ n back).2.2 ≠ 0 → (D.gets (s.d, s.T t) at_ n back).2.1 = 0) := by
  have hl := hs.T.len t ht
  have hz : D.AOk (s.d, s.T t) := ⟨hs.d, hs.T.fine t⟩
  obtain ⟨w1, w2, w3, w4⟩ := D.walk_ok (at_ := at_) hz n
  have p0 : (0 : Int) < 2 ^ n := Int.pow_pos (by omega)
  unfold D.gets
  rw [if_pos (by rw [hl]; exact hth), Int.toNat_natCast]
  by_cases h0 : (D.walk at_ (s.d, s.T t) n).2.2 = 0
  · have hb := val_bd back w3
    rw [w4 h0] at hb
    simp only [if_pos h0]
    exact ⟨hb.1, hb.2, fun h => absurd rfl h⟩
  · simp only [if_neg h0]
    exact ⟨Int.le_refl _, p0, fun _ => trivial⟩
end Z
end Go.Proofs.YtbgnnjfpiblkmaaGreatDoor

namespace Go.Proofs.YtbgnnjfpiblkmaaGreatDoor
open Go
set_option linter.unusedSimpArgs false
set_option linter.unnecessarySimpa false
set_option linter.unusedSectionVars false
set_option linter.unusedVariables false
attribute [local irreducible] oMv oV oU oCall oCallV oBi oBin oUn oLoad oStore oNil oFld oField oIdx oIndex oPick oAlloc oBox oBuild oBs oConv oMk oSl oExt oFn oIface oMap oLook oMapUp oRange oNext oEntry oInv oAssert oPanic oRes pN pA pL pDr pIf gA pGd

theorem D.bitQ_v0 {st : D.S} {l : List Int} {i : Int} (h : (st.bitQ l i).2.2.2 ≠ 0) : (st.bitQ l i).2.2.1 = 0 := by
  unfold D.S.bitQ at *
  split
  · rename_i hn
    simp only [if_pos hn] at h
    split
    · rename_i t v e
      simp only [e] at h
      exact absurd rfl h
    · rfl
  · rfl

section
variable {E w : World} {M : List HA} {Q : Value → World → Prop} {d p : Nat}

theorem downG_ok (at_ : Int) (n : Nat) (g : Value) (z : D.A) (hz : D.AOk z) (hn : n ≤ 16) (h0 : 0 ≤ at_) (h1 : at_ ≤ 1099511627776) (Inv : D.A → List Int → World → Prop)
    (hI : Inv z [] w) (step : ∀ y l w (K : Value → World → Prop), D.AOk y → D.Same y z → R.Bits l → l.length < n → Inv y l w →
      (∀ w, (y.1.bitQ y.2 (at_ + R.nodeL l)).2.2.2 = 0 → Inv ((y.1.bitQ y.2 (at_ + R.nodeL l)).1, (y.1.bitQ y.2 (at_ + R.nodeL l)).2.1) (l ++ [(y.1.bitQ y.2 (at_ + R.nodeL l)).2.2.1]) w → K (.tuple #[.int .i64 (y.1.bitQ y.2 (at_ + R.nodeL l)).2.2.1, .int .i64 0]) w) →
      (∀ w, (y.1.bitQ y.2 (at_ + R.nodeL l)).2.2.2 ≠ 0 → Inv y l w → K (.tuple #[.int .i64 (y.1.bitQ y.2 (at_ + R.nodeL l)).2.2.1, .int .i64 (y.1.bitQ y.2 (at_ + R.nodeL l)).2.2.2]) w) →
      pN Tryz.prog (oCallV g [.int .i64 (at_ + R.nodeL l), .int .i64 l.length]) w K)
    (hQ : ∀ w, Inv (D.walk at_ z n).1 (D.walk at_ z n).2.1 w → Q (.int .i64 (D.walk at_ z n).2.2) w) : Calls Tryz.prog 220 #[.int .i64 at_, .int .i64 n, g] w (retP Q) := by
  refine tree_down.calls ?_
  unfold tree_down.F
  refine ⟨fun m v w => ∃ (y : D.A) (l : List Int), m = .int .i64 (R.nodeL l) ∧ v = .int .i64 l.length ∧ l.length ≤ n ∧ D.walk at_ z l.length = (y, l, 0) ∧ Inv y l w, fun _ v _ => n - (RowKit.intOf v).toNat, ⟨z, [], rfl, rfl, Nat.zero_le _, rfl, hI⟩, ?_⟩
  rintro _ _ _ w1 ⟨y, l, rfl, rfl, hl, hw, hI⟩
  have hok := D.walk_ok (at_ := at_) hz l.length
  rw [hw] at hok
  obtain ⟨hy, hyz, hbits, _⟩ := hok
  dsimp only at hy hyz hbits
  have hm := R.nodeL_bd hbits
  have h2 : (2 : Int) ^ (l.length + 1) ≤ 2 ^ 17 := R.two_le (by omega)
  have h3 : (0 : Int) < 2 ^ l.length := Int.pow_pos (by omega)
  have e2 : (2 : Int) ^ 17 = 131072 := by decide
  have hst := D.walk_step hw
  have hb01 := D.bitQ_v (st := y.1) (l := y.2) (i := at_ + R.nodeL l)
  by_cases hlt : l.length < n
  · repeat' (first | (refine pN_lss_s ?_ ?_ <;> intro hc <;> try (exfalso; omega)) | refine pIf_t ?_ | refine pN_via (by (intro K; simp (disch := omega) only [go_sem, pN_min, pN_max, w_u32, w_u64, Option.isNone_some, Option.isNone_none]; (try simp only [wrap_u32, wrap_u64]); rfl)) ?_ | fail)
    refine step y l _ _ hy hyz hbits hlt hI (fun w h0 hI => ?_) (fun w h0 hI => ?_)
    · rw [if_pos h0] at hst
      repeat' (first | (refine pN_neq_s ?_ ?_ <;> intro hc <;> try (exfalso; first | omega | exact hc rfl | exact hc (by assumption) | exact absurd hc (by assumption))) | refine pIf_f ?_ | refine pN_via (by (intro K; simp (disch := omega) only [go_sem, pN_min, pN_max, w_u32, w_u64, Option.isNone_some, Option.isNone_none]; (try simp only [wrap_u32, wrap_u64]); rfl)) ?_ | fail)
      refine ⟨⟨_, l ++ [(y.1.bitQ y.2 (at_ + R.nodeL l)).2.2.1], by rw [R.nodeL_snoc], by simp, by simp; omega, by rw [List.length_append]; exact hst, hI⟩, by simp [RowKit.intOf] <;> omega⟩
    · rw [if_neg h0] at hst
      have hs := D.walk_stuck (at_ := at_) (z := z) (k := l.length + 1) (by rw [hst]; exact h0) (n - (l.length + 1))
      rw [show l.length + 1 + (n - (l.length + 1)) = n from by omega, hst] at hs
      rw [hs] at hQ
      repeat' (first | (refine pN_neq_s ?_ ?_ <;> intro hc <;> try (exfalso; first | omega | exact hc rfl | exact hc (by assumption) | exact absurd hc (by assumption))) | refine pIf_t ?_ | refine pN_via (by (intro K; simp (disch := omega) only [go_sem, pN_min, pN_max, w_u32, w_u64, Option.isNone_some, Option.isNone_none]; (try simp only [wrap_u32, wrap_u64]); rfl)) ?_ | fail)
      exact hQ _ hI
  · obtain rfl : n = l.length := by omega
    rw [hw] at hQ
    repeat' (first | (refine pN_lss_s ?_ ?_ <;> intro hc <;> try (exfalso; omega)) | refine pIf_f ?_ | fail)
    exact hQ _ hI

theorem part_or {back : Bool} {n : Nat} {l : List Int} (hb : R.Bits l) (hl : l.length < n) (hn : n ≤ 16) {x : Int} (hx : x = 0 ∨ x = 1) :
    IntKind.i64.wrap (x * 2 ^ (if back then l.length else n - 1 - l.length)) = x * 2 ^ (if back then l.length else n - 1 - l.length) ∧
    IntKind.i64.wrap ((BitVec.ofInt IntKind.i64.bits (R.part back n l) ||| BitVec.ofInt IntKind.i64.bits (x * 2 ^ (if back then l.length else n - 1 - l.length))).toNat : Int) = R.part back n l + x * 2 ^ (if back then l.length else n - 1 - l.length) := by
  have e64 : (2 : Int) ^ IntKind.i64.bits = 18446744073709551616 := by decide
  have e17 : (2 : Int) ^ 17 = 131072 := by decide
  cases back
  · simp only [Bool.false_eq_true, if_false, R.part]
    have h1 := R.horner_bd hb
    have p0 : (0 : Int) < 2 ^ (n - 1 - l.length) := Int.pow_pos (by omega)
    have p1 : (2 : Int) ^ (n - 1 - l.length) ≤ 2 ^ 17 := R.two_le (by omega)
    have p2 : (2 : Int) ^ (n - l.length) = 2 ^ (n - 1 - l.length) * 2 := by rw [show n - l.length = (n - 1 - l.length) + 1 from by omega, Int.pow_succ]
    have p3 : R.horner l * 2 ^ (n - l.length) ≤ 2 ^ l.length * 2 ^ (n - l.length) := Int.mul_le_mul_of_nonneg_right (by omega) (by omega)
    have p4 : (2 : Int) ^ l.length * 2 ^ (n - l.length) = 2 ^ n := by rw [← Int.pow_add, show l.length + (n - l.length) = n from by omega]
    have p5 : (2 : Int) ^ n ≤ 2 ^ 17 := R.two_le (by omega)
    have p6 : 0 ≤ R.horner l * 2 ^ (n - l.length) := Int.mul_nonneg h1.1 (by omega)
    have hx0 : 0 ≤ x * 2 ^ (n - 1 - l.length) ∧ x * 2 ^ (n - 1 - l.length) < 2 ^ (n - l.length) := by rcases hx with rfl | rfl <;> omega
    have := or_low IntKind.i64.bits (R.horner l) (x * 2 ^ (n - 1 - l.length)) (n - l.length) h1.1 hx0.1 hx0.2 (by omega)
    exact ⟨wrap_i64 (by omega), by rw [this, wrap_i64 (by omega)]⟩
  · simp only [if_true, R.part]
    have h1 := R.backv_bd hb
    have p0 : (0 : Int) < 2 ^ l.length := Int.pow_pos (by omega)
    have p1 : (2 : Int) ^ l.length ≤ 2 ^ 17 := R.two_le (by omega)
    have hx0 : 0 ≤ x * 2 ^ l.length ∧ x * 2 ^ l.length ≤ 2 ^ l.length := by rcases hx with rfl | rfl <;> omega
    have := or_low IntKind.i64.bits x (R.backv l) l.length (by omega) h1.1 h1.2 (by omega)
    exact ⟨wrap_i64 (by omega), by rw [BitVec.or_comm, this, wrap_i64 (by omega), Int.add_comm]⟩

theorem get_c1_ok {c1 c2 c3 c4 c5 : Nat} {back : Bool} {n : Nat} {y : D.A} {l : List Int} (place : Int)
    (hS : Sat E w (Dec d y.1 :: PSet p y.2 :: cel c1 ⟨76, [.pointer (some ⟨d, 0, none⟩)]⟩ :: cel c2 ⟨137, [.pointer (some ⟨p, 0, none⟩)]⟩ :: cel c3 ⟨3, [.int .i64 (R.part back n l)]⟩ :: cel c4 ⟨4, [.bool back]⟩ :: cel c5 ⟨3, [.int .i64 n]⟩ :: M))
    (hy : D.AOk y) (hb : y.1.b.length ≤ 225000000000000) (hbits : R.Bits l) (hk : l.length < n) (hn : n ≤ 16)
    (hQ : ∀ w, Sat E w (Dec d (y.1.bitQ y.2 place).1 :: PSet p (y.1.bitQ y.2 place).2.1 :: cel c1 ⟨76, [.pointer (some ⟨d, 0, none⟩)]⟩ :: cel c2 ⟨137, [.pointer (some ⟨p, 0, none⟩)]⟩ ::
      cel c3 ⟨3, [.int .i64 (R.part back n l + (y.1.bitQ y.2 place).2.2.1 * 2 ^ (if back then l.length else n - 1 - l.length))]⟩ :: cel c4 ⟨4, [.bool back]⟩ :: cel c5 ⟨3, [.int .i64 n]⟩ :: M) → Q (.tuple #[.int .i64 (y.1.bitQ y.2 place).2.2.1, .int .i64 (y.1.bitQ y.2 place).2.2.2]) w) :
    Calls Tryz.prog 221 #[.int .i64 place, .int .i64 l.length, .pointer (some ⟨c1, 0, none⟩), .pointer (some ⟨c2, 0, none⟩), .pointer (some ⟨c3, 0, none⟩), .pointer (some ⟨c4, 0, none⟩), .pointer (some ⟨c5, 0, none⟩)] w (retP Q) := by
  refine tree_get_c1.calls ?_
  unfold tree_get_c1.F
  have hb01 := D.bitQ_v (st := y.1) (l := y.2) (i := place)
  obtain ⟨o1, o2⟩ := part_or (back := back) hbits hk hn hb01
  have hj : (if back then l.length else n - 1 - l.length) ≤ 64 := by split <;> omega
  repeat' (first | (refine pc_rcdec_Decoder_Bit (DBit_q (hS.fd2 (Dec d) (PSet p)) hy.s hy.f hb place ?_); clear hS; intro w hS) | refine pN_l hS (by first | rfl | assumption) ?_ | refine pL_l hS (by first | rfl | assumption) ?_ | (refine pDr_go hS ?_; clear hS; intro w hS) | refine pN_via (by (intro K; simp (disch := omega) only [go_sem, pN_min, pN_max, w_u32, w_u64, Option.isNone_some, Option.isNone_none]; (try simp only [wrap_u32, wrap_u64]); rfl)) ?_ | fail)
  generalize y.1.bitQ y.2 place = r at *
  repeat' (first | refine pc_tree_order (order_ok back n l.length hk hn ?_) | (refine pA_shl_k _ rfl hj ?_; rw [o1]) | rw [pA_or, o2] | (refine pN_s hS (by first | exact Nat.le_of_ble_eq_true rfl | assumption) (by rfl) ?_; clear hS; intro w hS; try simp only [List.set_cons_zero, List.set_cons_succ] at hS) | refine ⟨trivial, ?_⟩ | refine ⟨⟨(by first | exact run_l hS (by first | rfl | assumption) | exact run_st hS (by first | rfl | omega) | exact run_ld1 ha hS | exact fun _ => run_l hS (by rfl) | exact fun _ => run_st hS (by first | rfl | omega) | exact fun _ => run_ld1 ha hS | exact fun h => Bool.noConfusion h), trivial⟩, ?_⟩ | fail)
  exact hQ _ hS.to

theorem get_ok {z : D.A} (hS : Sat E w (Dec d z.1 :: PSet p z.2 :: M)) (hz : D.AOk z) (hb : z.1.b.length ≤ 225000000000000) (hl : z.2.length ≤ 1048576) (at_ n : Int) (back : Bool)
    (hQ : ∀ w, Sat E w (Dec d (D.gets z at_ n back).1.1 :: PSet p (D.gets z at_ n back).1.2 :: M) → Q (.tuple #[.int .i64 (D.gets z at_ n back).2.1, .int .i64 (D.gets z at_ n back).2.2]) w) :
    Calls Tryz.prog 212 #[.pointer (some ⟨d, 0, none⟩), .pointer (some ⟨p, 0, none⟩), .int .i64 at_, .int .i64 n, .bool back] w (retP Q) := by
  refine tree_get.calls ?_
  unfold tree_get.F
  refine pN_bx hS (by rfl) fun c1 w hS => ?_
  refine pN_bx hS (by rfl) fun c2 w hS => ?_
  refine pN_bx hS (by rfl) fun c5 w hS => ?_
  refine pN_bx hS (by rfl) fun c4 w hS => ?_
  by_cases ht : R.There z.2.length at_ n
  rotate_left 1
  · have t1 : decide (R.There z.2.length at_ n) = false := decide_eq_false ht
    simp only [D.gets, if_neg ht] at hQ
    repeat' (first | (refine pc_tree_there (there_ok (hS.fd (PSet p)) _ _ ?_); rw [t1]; clear hS; intro w hS) | refine pIf_t ?_ | refine pN_l hS (by first | rfl | assumption) ?_ | refine pN_via (by (intro K; simp (disch := omega) only [go_sem, pN_min, pN_max, w_u32, w_u64, Option.isNone_some, Option.isNone_none]; (try simp only [wrap_u32, wrap_u64]); rfl)) ?_ | fail)
    exact hQ _ hS.to
  have t1 : decide (R.There z.2.length at_ n) = true := decide_eq_true ht
  simp only [D.gets, if_pos ht] at hQ
  obtain ⟨n0, n1, a0, a1, a2⟩ := ht
  obtain ⟨n, rfl⟩ : ∃ m : Nat, n = m := ⟨n.toNat, by omega⟩
  rw [Int.toNat_natCast] at hQ a2
  repeat' (first | (refine pc_tree_there (there_ok (hS.fd (PSet p)) _ _ ?_); rw [t1]; clear hS; intro w hS) | (refine pN_nz hS ?_; clear hS; intro c3 w hS) | refine pIf_f ?_ | refine pN_l hS (by first | rfl | assumption) ?_ | (refine pN_s hS (by first | exact Nat.le_of_ble_eq_true rfl | assumption) (by rfl) ?_; clear hS; intro w hS; try simp only [List.set_cons_zero, List.set_cons_succ] at hS) | refine pN_fn ?_ | refine pN_via (by (intro K; simp (disch := omega) only [go_sem, pN_min, pN_max, w_u32, w_u64, Option.isNone_some, Option.isNone_none]; (try simp only [wrap_u32, wrap_u64]); rfl)) ?_ | fail)
  have hp0 : R.part back n [] = 0 := by cases back <;> simp [R.part, R.backv, R.horner]
  refine pc_tree_down (downG_ok at_ n _ z hz (by omega) a0 (by omega)
    (fun y l w => Sat E w (Dec d y.1 :: PSet p y.2 :: cel c1 ⟨76, [.pointer (some ⟨d, 0, none⟩)]⟩ :: cel c2 ⟨137, [.pointer (some ⟨p, 0, none⟩)]⟩ :: cel c3 ⟨3, [.int .i64 (R.part back n l)]⟩ :: cel c4 ⟨4, [.bool back]⟩ :: cel c5 ⟨3, [.int .i64 n]⟩ :: M)) (by rw [hp0]; exact hS.to) ?_ ?_)
  · intro y l w K hy hyz hbits hln hS h1 h2
    refine pv_tree_get_c1 (get_c1_ok (at_ + R.nodeL l) hS hy (by rw [hyz.b]; exact hb) hbits hln (by omega) fun w hS => ?_)
    rw [← R.part_snoc back hln] at hS
    by_cases h0 : (y.1.bitQ y.2 (at_ + R.nodeL l)).2.2.2 = 0
    · rw [h0]
      exact h1 w h0 hS
    · obtain ⟨e1, e2⟩ := D.bitQ_no h0
      have e3 : (y.1.bitQ y.2 (at_ + R.nodeL l)).2.2.1 = 0 := D.bitQ_v0 h0
      refine h2 w h0 ?_
      rw [e1, e2, R.part_snoc back hln, e3, Int.zero_mul, Int.add_zero] at hS
      exact hS
  · intro w hS
    have hok := D.walk_ok (at_ := at_) hz n
    by_cases h0 : (D.walk at_ z n).2.2 = 0
    · have hlen := hok.2.2.2 h0
      have hpe := R.part_end back (D.walk at_ z n).2.1
      rw [hlen] at hpe
      simp only [h0, if_true] at hQ ⊢
      rw [hpe] at hS
      repeat' (first | (refine pN_neq_s ?_ ?_ <;> intro hc <;> try (exfalso; first | omega | exact hc rfl | exact hc (by assumption) | exact absurd hc (by assumption))) | refine pIf_f ?_ | refine pN_l hS (by first | rfl | assumption) ?_ | fail)
      exact hQ _ hS.to
    · simp only [if_neg h0] at hQ
      repeat' (first | (refine pN_neq_s ?_ ?_ <;> intro hc <;> try (exfalso; first | omega | exact hc rfl | exact hc (by assumption) | exact absurd hc (by assumption))) | refine pIf_t ?_ | fail)
      exact hQ _ hS.to

theorem Get_ok {z : D.A} (hS : Sat E w (Dec d z.1 :: PSet p z.2 :: M)) (hz : D.AOk z) (hb : z.1.b.length ≤ 225000000000000) (hl : z.2.length ≤ 1048576) (at_ n : Int)
    (hQ : ∀ w, Sat E w (Dec d (D.gets z at_ n false).1.1 :: PSet p (D.gets z at_ n false).1.2 :: M) → Q (.tuple #[.int .i64 (D.gets z at_ n false).2.1, .int .i64 (D.gets z at_ n false).2.2]) w) :
    Calls Tryz.prog 202 #[.pointer (some ⟨d, 0, none⟩), .pointer (some ⟨p, 0, none⟩), .int .i64 at_, .int .i64 n] w (retP Q) := by
  refine tree_Get.calls ?_
  unfold tree_Get.F
  refine pc_tree_get (get_ok hS hz hb hl at_ n false fun w hS => ?_)
  repeat' (first | refine pN_via (by (intro K; simp (disch := omega) only [go_sem, pN_min, pN_max, w_u32, w_u64, Option.isNone_some, Option.isNone_none]; (try simp only [wrap_u32, wrap_u64]); rfl)) ?_ | fail)
  exact hQ w hS
theorem GetBack_ok {z : D.A} (hS : Sat E w (Dec d z.1 :: PSet p z.2 :: M)) (hz : D.AOk z) (hb : z.1.b.length ≤ 225000000000000) (hl : z.2.length ≤ 1048576) (at_ n : Int)
    (hQ : ∀ w, Sat E w (Dec d (D.gets z at_ n true).1.1 :: PSet p (D.gets z at_ n true).1.2 :: M) → Q (.tuple #[.int .i64 (D.gets z at_ n true).2.1, .int .i64 (D.gets z at_ n true).2.2]) w) :
    Calls Tryz.prog 203 #[.pointer (some ⟨d, 0, none⟩), .pointer (some ⟨p, 0, none⟩), .int .i64 at_, .int .i64 n] w (retP Q) := by
  refine tree_GetBack.calls ?_
  unfold tree_GetBack.F
  refine pc_tree_get (get_ok hS hz hb hl at_ n true fun w hS => ?_)
  repeat' (first | refine pN_via (by (intro K; simp (disch := omega) only [go_sem, pN_min, pN_max, w_u32, w_u64, Option.isNone_some, Option.isNone_none]; (try simp only [wrap_u32, wrap_u64]); rfl)) ?_ | fail)
  exact hQ w hS
end

end Go.Proofs.YtbgnnjfpiblkmaaGreatDoor

namespace Go.Proofs.YtbgnnjfpiblkmaaGreatDoor
open Go
set_option linter.unusedSimpArgs false
set_option linter.unnecessarySimpa false
set_option linter.unusedSectionVars false
set_option linter.unusedVariables false

def Rsd (p : Z.Pr) (B : List UInt8) (dd : Nat) (q : Nat → Nat) (z : Option Z.RS) : HA := fun h => ∃ y : Z.RS, (y.Ok p ∧ y.d.b = B ∧ ∀ s, z = some s → y = s) ∧ Sats [Dec dd y.d, tabs q y.T] h
abbrev rdCells (dec dd : Nat) (f : Bool) : List Value := [pz dec, pz dd, .bool f]
abbrev dcCells (t wd : Nat) (f : Bool) : List Value := [pz t, pz wd, .bool f]
section
variable {E w : World} {M : List HA} {p : Z.Pr} {B : List UInt8} {dd : Nat} {q : Nat → Nat} {z : Option Z.RS} {y : Z.RS}
theorem Rsd.opn (hS : Sat E w (Rsd p B dd q z :: M)) : ∃ y : Z.RS, y.Ok p ∧ y.d.b = B ∧ (∀ s, z = some s → y = s) ∧ Sat E w (Dec dd y.d :: tabs q y.T :: M) := by
  obtain ⟨y, hS⟩ := hS.ex
  obtain ⟨h1, ⟨hA, _⟩, _⟩ := hS.head
  exact ⟨y, hA.1, hA.2.1, hA.2.2, hS.open_ (M := [_, _]) fun _ h => h.2⟩
theorem Rsd.shut (hS : Sat E w (Dec dd y.d :: tabs q y.T :: M)) (h1 : y.Ok p) (h2 : y.d.b = B) (h3 : ∀ s, z = some s → y = s) : Sat E w (Rsd p B dd q z :: M) :=
  Sat.shut (M := [_, _]) hS fun _ h => ⟨y, ⟨h1, h2, h3⟩, h⟩
end
attribute [local irreducible] oMv oV oU oCall oCallV oBi oBin oUn oLoad oStore oNil oFld oField oIdx oIndex oPick oAlloc oBox oBuild oBs oConv oMk oSl oExt oFn oIface oMap oLook oMapUp oRange oNext oEntry oInv oAssert oPanic oRes pN pA pL pDr pIf gA pGd

section
variable {E w W : World} {M N : List HA} {Q : Value → World → Prop} {p : Z.Pr} {s : Z.St} {x : Z.W} {B : List UInt8} {r dec dd t wd : Nat} {q : Nat → Nat} {z : Option Z.RS}

theorem got_ok {v e : Int} {f : Bool} (hS : Sat E w (cel r ⟨233, rdCells dec dd f⟩ :: M)) (h0 : e = 0 → ∀ w, Sat E w (cel r ⟨233, rdCells dec dd f⟩ :: M) → Q (.int .i64 v) w) (h1 : e ≠ 0 → ∀ w, Sat E w (cel r ⟨233, rdCells dec dd true⟩ :: M) → Q (.int .i64 0) w) :
    Calls Tryz.prog 187 #[pz r, .int .i64 v, .int .i64 e] w (retP Q) := by
  refine lzdec_reader_got.calls ?_
  unfold lzdec_reader_got.F
  by_cases he : e = 0
  · repeat' (first | (refine pN_neq_s ?_ ?_ <;> intro hc <;> try (exfalso; first | omega | exact hc rfl | exact hc (by assumption) | exact absurd hc (by assumption))) | refine pIf_f ?_ | fail)
    exact h0 he _ hS.to
  · repeat' (first | (refine pN_neq_s ?_ ?_ <;> intro hc <;> try (exfalso; first | omega | exact hc rfl | exact hc (by assumption) | exact absurd hc (by assumption))) | refine pIf_t ?_ | (refine pN_s hS (by first | exact Nat.le_of_ble_eq_true rfl | assumption) (by rfl) ?_; clear hS; intro w hS; try simp only [List.set_cons_zero, List.set_cons_succ] at hS) | refine pN_via (by (intro K; simp (disch := omega) only [go_sem, pN_min, pN_max, w_u32, w_u64, Option.isNone_some, Option.isNone_none]; (try simp only [wrap_u32, wrap_u64]); rfl)) ?_ | fail)
    exact h1 he _ hS.to

theorem rbit_ok (hS : Sat E w (cel r ⟨233, rdCells dec dd z.isNone⟩ :: Rsd p B dd q z :: M)) (hB : B.length ≤ 225000000000000) (t : Nat) (ht : t < 18) (i : Int) (i0 : 0 ≤ i) (i1 : i < Z.tabLen p t)
    (hQ : ∀ y v w, Z.Got (.bit t i .ret) z y v → (v = 0 ∨ v = 1) → Sat E w (cel r ⟨233, rdCells dec dd y.isNone⟩ :: Rsd p B dd q y :: M) → Q (.int .i64 v) w) :
    Calls Tryz.prog 167 #[pz r, pz (q t), .int .i64 i] w (retP Q) := by
  refine lzdec_reader_bit.calls ?_
  unfold lzdec_reader_bit.F
  cases z with
  | none =>
    simp only [Option.isNone_none] at hS
    repeat' (first | refine pIf_t ?_ | refine pN_l hS (by first | rfl | assumption) ?_ | refine pN_via (by (intro K; simp (disch := omega) only [go_sem, pN_min, pN_max, w_u32, w_u64, Option.isNone_some, Option.isNone_none]; (try simp only [wrap_u32, wrap_u64]); rfl)) ?_ | fail)
    exact hQ none 0 _ rfl (.inl rfl) hS
  | some s =>
    simp only [Option.isNone_some] at hS
    have hO := Rsd.opn (hS.fd (Rsd p B dd q))
    clear hS
    obtain ⟨s', ho, hb, hs, hS⟩ := hO
    obtain rfl := hs s rfl
    have hlen := ho.T.len t ht
    have hask := Z.ask_bitQ (z := s') (t := t) (i := i) (by omega) (by omega)
    have hok := D.bitQ_ok ho.d (ho.T.fine t) i
    have h01 := D.bitQ_v (st := s'.d) (l := s'.T t) (i := i)
    have hS := tabs_out (hS.fd (tabs q)) t ht
    repeat' (first | (refine pc_rcdec_Decoder_Bit (DBit_q (hS.fd2 (Dec dd) (PSet (q t))) ho.d (ho.T.fine t) (by rw [hb]; exact hB) i ?_); clear hS; intro w hS) | refine pIf_f ?_ | refine pN_l hS (by first | rfl | assumption) ?_ | refine pN_via (by (intro K; simp (disch := omega) only [go_sem, pN_min, pN_max, w_u32, w_u64, Option.isNone_some, Option.isNone_none]; (try simp only [wrap_u32, wrap_u64]); rfl)) ?_ | fail)
    have hT : Z.TabOk p (Z.upd s'.T t (s'.d.bitQ (s'.T t) i).2.1) := by
      refine ⟨fun k hk => ?_, fun k => ?_⟩
      · by_cases hkt : k = t
        · subst hkt; rw [Z.upd_self, hok.2.2.2]; exact hlen
        · rw [Z.upd_ne _ _ hkt]; exact ho.T.len k hk
      · by_cases hkt : k = t
        · subst hkt; rw [Z.upd_self]; exact hok.2.2.1
        · rw [Z.upd_ne _ _ hkt]; exact ho.T.fine k
    generalize s'.d.bitQ (s'.T t) i = u at *
    have hS := tabs_into (hS.fd2 (PSet (q t)) (tabsBut q s'.T)) ht
    refine pc_lzdec_reader_got (got_ok (hS.fd (cel r)) (fun h0 w hS => ?_) fun h1 w hS => ?_)
    · rw [if_pos h0] at hask
      exact hQ (some ⟨u.1, Z.upd s'.T t u.2.1⟩) _ _ (by show Z.Rd.run _ _ = _; rw [Z.Rd.run, hask]; rfl) h01 ((Rsd.shut (y := ⟨u.1, Z.upd s'.T t u.2.1⟩) (p := p) (B := B) (z := some ⟨u.1, Z.upd s'.T t u.2.1⟩) (hS.fd2 (Dec dd) (tabs q)) ⟨hok.1, hT⟩ (hok.2.1.trans hb) (fun _ h => by cases h; rfl)).fd2 (cel r) (Rsd p B dd q))
    · rw [if_neg h1] at hask
      exact hQ none 0 _ (by show Z.Rd.run _ _ = _; rw [Z.Rd.run, hask]; rfl) (.inl rfl) ((Rsd.shut (y := ⟨u.1, Z.upd s'.T t u.2.1⟩) (p := p) (B := B) (z := none) (hS.fd2 (Dec dd) (tabs q)) ⟨hok.1, hT⟩ (hok.2.1.trans hb) (fun _ h => by cases h)).fd2 (cel r) (Rsd p B dd q))

theorem gets_tab {T : Nat → List Int} (hT : Z.TabOk p T) {d : D.S} (hd : D.Ok d) {t : Nat} (ht : t < 18) (at_ n : Int) (back : Bool) : Z.TabOk p (Z.upd T t (D.gets (d, T t) at_ n back).1.2) ∧ D.Ok (D.gets (d, T t) at_ n back).1.1 ∧ (D.gets (d, T t) at_ n back).1.1.b = d.b := by
  obtain ⟨h1, h2⟩ := D.gets_ok (z := (d, T t)) ⟨hd, hT.fine t⟩ at_ n back
  refine ⟨⟨fun k hk => ?_, fun k => ?_⟩, h1.s, h2.b⟩
  · by_cases hkt : k = t
    · subst hkt; rw [Z.upd_self, h2.n]; exact hT.len k hk
    · rw [Z.upd_ne _ _ hkt]; exact hT.len k hk
  · by_cases hkt : k = t
    · subst hkt; rw [Z.upd_self]; exact h1.f
    · rw [Z.upd_ne _ _ hkt]; exact hT.fine k
theorem rtree_ok (hS : Sat E w (cel r ⟨233, rdCells dec dd z.isNone⟩ :: Rsd p B dd q z :: M)) (hp : p.Ok) (hB : B.length ≤ 225000000000000) (t : Nat) (ht : t < 18) (at_ : Int) (n : Nat) (hth : R.There (Z.tabLen p t) at_ n)
    (hQ : ∀ y v w, Z.Got (Z.treeRd false t at_ n) z y v → 0 ≤ v → v < 2 ^ n → Sat E w (cel r ⟨233, rdCells dec dd y.isNone⟩ :: Rsd p B dd q y :: M) → Q (.int .i64 v) w) :
    Calls Tryz.prog 188 #[pz r, pz (q t), .int .i64 at_, .int .i64 n] w (retP Q) := by
  refine lzdec_reader_tree.calls ?_
  unfold lzdec_reader_tree.F
  cases z with
  | none =>
    simp only [Option.isNone_none] at hS
    repeat' (first | refine pIf_t ?_ | refine pN_l hS (by first | rfl | assumption) ?_ | refine pN_via (by (intro K; simp (disch := omega) only [go_sem, pN_min, pN_max, w_u32, w_u64, Option.isNone_some, Option.isNone_none]; (try simp only [wrap_u32, wrap_u64]); rfl)) ?_ | fail)
    exact hQ none 0 _ rfl (Int.le_refl _) (Int.pow_pos (by omega)) hS
  | some s =>
    simp only [Option.isNone_some] at hS
    have hO := Rsd.opn (hS.fd (Rsd p B dd q))
    clear hS
    obtain ⟨s', ho, hb, hs, hS⟩ := hO
    obtain rfl := hs s rfl
    have hlen := ho.T.len t ht
    have hrun := Z.gets_run ho (back := false) ht hth
    have hbd := Z.gets_bd ho (back := false) ht hth
    have htab := gets_tab ho.T ho.d ht at_ n false
    have hl := Nat.le_trans (Z.tabLen_bd hp t) (show 12288 ≤ 1048576 by decide)
    rw [← hlen] at hl
    have hS := tabs_out (hS.fd (tabs q)) t ht
    repeat' (first | (refine pc_tree_Get (Get_ok (z := (s'.d, s'.T t)) (hS.fd2 (Dec dd) (PSet (q t))) ⟨ho.d, ho.T.fine t⟩ (by show s'.d.b.length ≤ _; rw [hb]; exact hB) hl at_ n ?_); clear hS; intro w hS) | refine pIf_f ?_ | refine pN_l hS (by first | rfl | assumption) ?_ | refine pN_via (by (intro K; simp (disch := omega) only [go_sem, pN_min, pN_max, w_u32, w_u64, Option.isNone_some, Option.isNone_none]; (try simp only [wrap_u32, wrap_u64]); rfl)) ?_ | fail)
    generalize D.gets (s'.d, s'.T t) at_ n false = u at *
    have hS := tabs_into (hS.fd2 (PSet (q t)) (tabsBut q s'.T)) ht
    refine pc_lzdec_reader_got (got_ok (hS.fd (cel r)) (fun h0 w hS => ?_) fun h1 w hS => ?_)
    · rw [if_pos h0] at hrun
      exact hQ (some ⟨u.1.1, Z.upd s'.T t u.1.2⟩) _ _ hrun hbd.1 hbd.2.1 ((Rsd.shut (y := ⟨u.1.1, Z.upd s'.T t u.1.2⟩) (p := p) (B := B) (z := some ⟨u.1.1, Z.upd s'.T t u.1.2⟩) (hS.fd2 (Dec dd) (tabs q)) ⟨htab.2.1, htab.1⟩ (htab.2.2.trans hb) (fun _ h => by cases h; rfl)).fd2 (cel r) (Rsd p B dd q))
    · rw [if_neg h1] at hrun
      exact hQ none 0 _ hrun (Int.le_refl _) (Int.pow_pos (by omega)) ((Rsd.shut (y := ⟨u.1.1, Z.upd s'.T t u.1.2⟩) (p := p) (B := B) (z := none) (hS.fd2 (Dec dd) (tabs q)) ⟨htab.2.1, htab.1⟩ (htab.2.2.trans hb) (fun _ h => by cases h)).fd2 (cel r) (Rsd p B dd q))

theorem rback_ok (hS : Sat E w (cel r ⟨233, rdCells dec dd z.isNone⟩ :: Rsd p B dd q z :: M)) (hp : p.Ok) (hB : B.length ≤ 225000000000000) (t : Nat) (ht : t < 18) (at_ : Int) (n : Nat) (hth : R.There (Z.tabLen p t) at_ n)
    (hQ : ∀ y v w, Z.Got (Z.treeRd true t at_ n) z y v → 0 ≤ v → v < 2 ^ n → Sat E w (cel r ⟨233, rdCells dec dd y.isNone⟩ :: Rsd p B dd q y :: M) → Q (.int .i64 v) w) :
    Calls Tryz.prog 189 #[pz r, pz (q t), .int .i64 at_, .int .i64 n] w (retP Q) := by
  refine lzdec_reader_back.calls ?_
  unfold lzdec_reader_back.F
  cases z with
  | none =>
    simp only [Option.isNone_none] at hS
    repeat' (first | refine pIf_t ?_ | refine pN_l hS (by first | rfl | assumption) ?_ | refine pN_via (by (intro K; simp (disch := omega) only [go_sem, pN_min, pN_max, w_u32, w_u64, Option.isNone_some, Option.isNone_none]; (try simp only [wrap_u32, wrap_u64]); rfl)) ?_ | fail)
    exact hQ none 0 _ rfl (Int.le_refl _) (Int.pow_pos (by omega)) hS
  | some s =>
    simp only [Option.isNone_some] at hS
    have hO := Rsd.opn (hS.fd (Rsd p B dd q))
    clear hS
    obtain ⟨s', ho, hb, hs, hS⟩ := hO
    obtain rfl := hs s rfl
    have hlen := ho.T.len t ht
    have hrun := Z.gets_run ho (back := true) ht hth
    have hbd := Z.gets_bd ho (back := true) ht hth
    have htab := gets_tab ho.T ho.d ht at_ n true
    have hl := Nat.le_trans (Z.tabLen_bd hp t) (show 12288 ≤ 1048576 by decide)
    rw [← hlen] at hl
    have hS := tabs_out (hS.fd (tabs q)) t ht
    repeat' (first | (refine pc_tree_GetBack (GetBack_ok (z := (s'.d, s'.T t)) (hS.fd2 (Dec dd) (PSet (q t))) ⟨ho.d, ho.T.fine t⟩ (by show s'.d.b.length ≤ _; rw [hb]; exact hB) hl at_ n ?_); clear hS; intro w hS) | refine pIf_f ?_ | refine pN_l hS (by first | rfl | assumption) ?_ | refine pN_via (by (intro K; simp (disch := omega) only [go_sem, pN_min, pN_max, w_u32, w_u64, Option.isNone_some, Option.isNone_none]; (try simp only [wrap_u32, wrap_u64]); rfl)) ?_ | fail)
    generalize D.gets (s'.d, s'.T t) at_ n true = u at *
    have hS := tabs_into (hS.fd2 (PSet (q t)) (tabsBut q s'.T)) ht
    refine pc_lzdec_reader_got (got_ok (hS.fd (cel r)) (fun h0 w hS => ?_) fun h1 w hS => ?_)
    · rw [if_pos h0] at hrun
      exact hQ (some ⟨u.1.1, Z.upd s'.T t u.1.2⟩) _ _ hrun hbd.1 hbd.2.1 ((Rsd.shut (y := ⟨u.1.1, Z.upd s'.T t u.1.2⟩) (p := p) (B := B) (z := some ⟨u.1.1, Z.upd s'.T t u.1.2⟩) (hS.fd2 (Dec dd) (tabs q)) ⟨htab.2.1, htab.1⟩ (htab.2.2.trans hb) (fun _ h => by cases h; rfl)).fd2 (cel r) (Rsd p B dd q))
    · rw [if_neg h1] at hrun
      exact hQ none 0 _ hrun (Int.le_refl _) (Int.pow_pos (by omega)) ((Rsd.shut (y := ⟨u.1.1, Z.upd s'.T t u.1.2⟩) (p := p) (B := B) (z := none) (hS.fd2 (Dec dd) (tabs q)) ⟨htab.2.1, htab.1⟩ (htab.2.2.trans hb) (fun _ h => by cases h)).fd2 (cel r) (Rsd p B dd q))

theorem dirQ_bd {d : D.S} {n : Nat} (hn : n ≤ 32) : 0 ≤ (d.dirQ n).2.1 ∧ (d.dirQ n).2.1 < 2 ^ n := by
  unfold D.S.dirQ
  rw [if_pos (by omega), Int.toNat_natCast]
  have p0 : (0 : Int) < 2 ^ n := Int.pow_pos (by omega)
  cases e : d.direct 0 n with
  | no e' => exact ⟨Int.le_refl _, p0⟩
  | ok t u =>
    have key : ∀ (n : Nat) {d t : D.S} {v u : Int}, 0 ≤ v → d.direct v n = .ok t u → v * 2 ^ n ≤ u ∧ u < (v + 1) * 2 ^ n := by
      intro n
      induction n with
      | zero => intro d t v u hv e; cases e; simp; omega
      | succ n ih =>
        intro d t v u hv e
        simp only [D.S.direct] at e
        split at e
        · cases e
        · split at e
          · cases e
          · have h01 := D.bitAt_01 d (d.R / 2)
            have := ih (by omega) e
            have p1 : (0 : Int) < 2 ^ n := Int.pow_pos (by omega)
            rw [Int.pow_succ]
            generalize (2 : Int) ^ n = W at *
            rcases h01 with h | h <;> rw [h] at this
            · constructor <;> grind
            · constructor <;> grind
    have := key n (Int.le_refl 0) e
    simp only
    omega
theorem rdirect_ok (hS : Sat E w (cel r ⟨233, rdCells dec dd z.isNone⟩ :: Rsd p B dd q z :: M)) (hB : B.length ≤ 225000000000000) (n : Nat) (hn : n ≤ 32)
    (hQ : ∀ y v w, Z.Got (Z.dirRd n 0) z y v → 0 ≤ v → v < 2 ^ n → Sat E w (cel r ⟨233, rdCells dec dd y.isNone⟩ :: Rsd p B dd q y :: M) → Q (.int .i64 v) w) :
    Calls Tryz.prog 190 #[pz r, .int .i64 n] w (retP Q) := by
  refine lzdec_reader_direct.calls ?_
  unfold lzdec_reader_direct.F
  cases z with
  | none =>
    simp only [Option.isNone_none] at hS
    repeat' (first | refine pIf_t ?_ | refine pN_l hS (by first | rfl | assumption) ?_ | refine pN_via (by (intro K; simp (disch := omega) only [go_sem, pN_min, pN_max, w_u32, w_u64, Option.isNone_some, Option.isNone_none]; (try simp only [wrap_u32, wrap_u64]); rfl)) ?_ | fail)
    exact hQ none 0 _ rfl (Int.le_refl _) (Int.pow_pos (by omega)) hS
  | some s =>
    simp only [Option.isNone_some] at hS
    have hO := Rsd.opn (hS.fd (Rsd p B dd q))
    clear hS
    obtain ⟨s', ho, hb, hs, hS⟩ := hO
    obtain rfl := hs s rfl
    have hrun := Z.dirQ_run (s := s') hn
    have hbd := dirQ_bd (d := s'.d) hn
    have hok := D.dirQ_ok ho.d n
    have h32 : (2 : Int) ^ n ≤ 2 ^ 32 := two_le' hn
    have e32 : (2 : Int) ^ 32 = 4294967296 := by decide
    repeat' (first | (refine pc_rcdec_Decoder_Direct (DDirect_q (hS.fd (Dec dd)) ho.d (by rw [hb]; exact hB) n ?_); clear hS; intro w hS) | refine pIf_f ?_ | refine pN_l hS (by first | rfl | assumption) ?_ | refine pN_via (by (intro K; simp (disch := omega) only [go_sem, pN_min, pN_max, w_u32, w_u64, Option.isNone_some, Option.isNone_none]; (try simp only [wrap_u32, wrap_u64]); rfl)) ?_ | fail)
    generalize s'.d.dirQ n = u at *
    skip
    refine pc_lzdec_reader_got (got_ok (hS.fd (cel r)) (fun h0 w hS => ?_) fun h1 w hS => ?_)
    · rw [if_pos h0] at hrun
      exact hQ (some ⟨u.1, s'.T⟩) _ _ hrun hbd.1 hbd.2 ((Rsd.shut (y := ⟨u.1, s'.T⟩) (p := p) (B := B) (z := some ⟨u.1, s'.T⟩) (hS.fd2 (Dec dd) (tabs q)) ⟨hok.1, ho.T⟩ (hok.2.trans hb) (fun _ h => by cases h; rfl)).fd2 (cel r) (Rsd p B dd q))
    · rw [if_neg h1] at hrun
      exact hQ none 0 _ hrun (Int.le_refl _) (Int.pow_pos (by omega)) ((Rsd.shut (y := ⟨u.1, s'.T⟩) (p := p) (B := B) (z := none) (hS.fd2 (Dec dd) (tabs q)) ⟨hok.1, ho.T⟩ (hok.2.trans hb) (fun _ h => by cases h)).fd2 (cel r) (Rsd p B dd q))
end

end Go.Proofs.YtbgnnjfpiblkmaaGreatDoor
