/-
  Package lzenc: what each call does, on an encoder as plain data.
-/
import Derived.Test.YtbgnnjfpiblkmaaDoorLz
namespace Go.Proofs.YtbgnnjfpiblkmaaDoor
open Go
set_option linter.unusedSimpArgs false
set_option linter.unnecessarySimpa false
set_option linter.unusedSectionVars false
set_option linter.unusedVariables false

theorem pN_ifc {en : Nat} {w : World} {K : Value → World → Prop} (hk : K (codingV en) w) : pN Tryd.prog (oIface 57 (.agg #[pz en])) w K := by
  have : (oIface 57 (.agg #[pz en])).run Tryd.prog w = .ok (.value (codingV en)) w := by kernel_rfl
  rw [pN_def, this, rN_value]; exact hk
theorem pN_ifs {en : Nat} {w : World} {K : Value → World → Prop} (hk : K (costingV en) w) : pN Tryd.prog (oIface 72 (pz en)) w K := by
  have : (oIface 72 (pz en)).run Tryd.prog w = .ok (.value (costingV en)) w := by kernel_rfl
  rw [pN_def, this, rN_value]; exact hk

/-- An encoder. -/
def LEnc (b : Nat) (e : Z.EZ) : HA := fun h => ∃ k : Nat × Nat × Nat × (Nat → Nat), e.Ok ∧ Sats [cel b ⟨54, encCells k.1 k.2.1 k.2.2.1⟩, cel k.1 ⟨67, tbCells e.p e.st k.2.2.2⟩, Win k.2.1 e.x, Enc k.2.2.1 e.s, tabs k.2.2.2 e.T] h
section
variable {E w : World} {M : List HA} {b t wd en : Nat} {q : Nat → Nat} {e : Z.EZ}
theorem LEnc.opn (hS : Sat E w (LEnc b e :: M)) : e.Ok ∧ ∃ t wd en q, Sat E w (cel b ⟨54, encCells t wd en⟩ :: cel t ⟨67, tbCells e.p e.st q⟩ :: Win wd e.x :: Enc en e.s :: tabs q e.T :: M) := by
  obtain ⟨k, hS⟩ := hS.ex
  obtain ⟨h1, ⟨hA, _⟩, _⟩ := hS.head
  exact ⟨hA, k.1, k.2.1, k.2.2.1, k.2.2.2, hS.open_ (M := [_, _, _, _, _]) fun _ h => h.2⟩
theorem LEnc.shut (hS : Sat E w (cel b ⟨54, encCells t wd en⟩ :: cel t ⟨67, tbCells e.p e.st q⟩ :: Win wd e.x :: Enc en e.s :: tabs q e.T :: M)) (he : e.Ok) : Sat E w (LEnc b e :: M) :=
  Sat.shut (M := [_, _, _, _, _]) hS fun _ h => ⟨(t, wd, en, q), he, h⟩
theorem cel_conv {E w : World} {M : List HA} {t : Nat} {o o' : Ob} (h : o = o') (hS : Sat E w (cel t o :: M)) : Sat E w (cel t o' :: M) := h ▸ hS
def capT (T : Nat → List Int) (i : Nat) : List Int := if i < 18 then T i else []
theorem capT_eq (q : Nat → Nat) (T : Nat → List Int) : tabs q T = tabs q (capT T) := tabs_congr (fun _ _ => rfl) fun i hi => by rw [capT, if_pos hi]
theorem capT_ok {p : Z.Pr} (hp : p.Ok) {T : Nat → List Int} (h : Z.TabOk p T) : ∀ i, (capT T i).length ≤ 1048576 := fun i => by
  unfold capT
  split
  · exact Z.tab_small hp h i (by assumption)
  · exact Nat.zero_le _
end
attribute [local irreducible] oMv oV oU oCall oCallV oBi oBin oUn oLoad oStore oNil oFld oField oIdx oIndex oPick oAlloc oBox oBuild oBs oConv oMk oSl oExt oFn oIface oMap oLook oMapUp oRange oNext oEntry oInv oAssert oPanic oRes pN pA pL pDr pIf gA pGd

section
variable {E w W : World} {M N : List HA} {Q : Value → World → Prop} {b : Nat} {e : Z.EZ} {y : Z.Y}

theorem LNew_in {p : Z.Pr} (hS : Sat E w M) (hp : p.Ok) (d : Int) (h0 : 1 ≤ d) (h1 : d ≤ 4294967295) (hQ : ∀ b w, Sat E w (LEnc b (Z.EZ.new p d) :: M) → Q (.tuple #[pz b, .int .i64 0]) w) :
    Calls Tryd.prog 5 #[.agg #[.int .i64 p.lc, .int .i64 p.lp, .int .i64 p.pb], .int .i64 d] w (retP Q) := by
  refine lzenc_New.calls ?_
  unfold lzenc_New.F
  repeat' (first | (refine pc_state_PropsByte (PropsByte_in p hp hS ?_); clear hS; intro w hS) | (refine pc_window_New (WNew_in hS d h0 h1 ?_); clear hS; intro wd w hS) | (refine pc_model_New (MNew_ok hp hS ?_); clear hS; intro t q w hS) | (refine pc_rcenc_New (NewE_ok hS ?_); clear hS; intro en w hS) | (refine pN_neq_s ?_ ?_ <;> intro hc <;> try (exfalso; first | omega | exact hc rfl | exact hc (by assumption) | exact absurd hc (by assumption))) | refine pIf_f ?_ | refine pN_la hS (by rfl) ?_ | (refine pN_bx hS (by rfl) ?_; clear hS; intro a w hS) | refine pN_via (by (intro K; simp (disch := omega) only [go_sem, pN_min, pN_max, w_u32, w_u64, Option.isNone_some, Option.isNone_none]; (try simp only [wrap_u32, wrap_u64]); rfl)) ?_ | fail)
  exact hQ _ _ (LEnc.shut (e := ⟨p, Z.St.new, Z.T0 p, ⟨d, []⟩, R.S.new⟩) (t := t) (wd := wd) (en := en) (q := q) hS.to (Z.EZ.Ok.new hp d))
theorem LNew_no {p : Z.Pr} (hS : Sat E w M) (d : Int) (hpb : -9223372036854775808 ≤ p.lc ∧ p.lc < 9223372036854775808) (h : ¬ (p.Ok ∧ 1 ≤ d ∧ d ≤ 4294967295)) (hQ : ∀ w, Sat E w M → Q (.tuple #[.pointer none, .int .i64 (if p.Ok then 7 else 6)]) w) :
    Calls Tryd.prog 5 #[.agg #[.int .i64 p.lc, .int .i64 p.lp, .int .i64 p.pb], .int .i64 d] w (retP Q) := by
  refine lzenc_New.calls ?_
  unfold lzenc_New.F
  by_cases hp : p.Ok
  · rw [if_pos hp] at hQ
    repeat' (first | (refine pc_state_PropsByte (PropsByte_in p hp hS ?_); clear hS; intro w hS) | (refine pc_window_New (WNew_no d (fun hd => h ⟨hp, hd⟩) ?_)) | (refine pN_neq_s ?_ ?_ <;> intro hc <;> try (exfalso; first | omega | exact hc rfl | exact hc (by assumption) | exact absurd hc (by assumption))) | refine pIf_t ?_ | refine pIf_f ?_ | refine pN_la hS (by rfl) ?_ | (refine pN_bx hS (by rfl) ?_; clear hS; intro a w hS) | refine pN_via (by (intro K; simp (disch := omega) only [go_sem, pN_min, pN_max, w_u32, w_u64, Option.isNone_some, Option.isNone_none]; (try simp only [wrap_u32, wrap_u64]); rfl)) ?_ | fail)
    exact hQ _ hS.to
  · rw [if_neg hp] at hQ
    repeat' (first | (refine pc_state_PropsByte (PropsByte_no p hp hpb hS ?_); clear hS; intro w hS) | (refine pN_neq_s ?_ ?_ <;> intro hc <;> try (exfalso; first | omega | exact hc rfl | exact hc (by assumption) | exact absurd hc (by assumption))) | refine pIf_t ?_ | refine pN_la hS (by rfl) ?_ | (refine pN_bx hS (by rfl) ?_; clear hS; intro a w hS) | refine pN_via (by (intro K; simp (disch := omega) only [go_sem, pN_min, pN_max, w_u32, w_u64, Option.isNone_some, Option.isNone_none]; (try simp only [wrap_u32, wrap_u64]); rfl)) ?_ | fail)
    exact hQ _ hS.to

theorem LSize_ok (hS : Sat E w (LEnc b e :: M)) (hk : e.s.k ≤ 140737488355328) (hQ : ∀ w, Sat E w (LEnc b e :: M) → Q (.int .i64 (e.s.k + 5 : Nat)) w) :
    Calls Tryd.prog 8 #[pz b] w (retP Q) := by
  refine lzenc_Encoder_Size.calls ?_
  unfold lzenc_Encoder_Size.F
  obtain ⟨he, t, wd, en, q, hS⟩ := LEnc.opn hS
  repeat' (first | (refine pc_rcenc_Encoder_Size (Size_ok (hS.fd (Enc en)) hk ?_); clear hS; intro w hS) | refine pN_l hS (by first | rfl | assumption) ?_ | refine pN_via (by (intro K; simp (disch := omega) only [go_sem, pN_min, pN_max, w_u32, w_u64, Option.isNone_some, Option.isNone_none]; (try simp only [wrap_u32, wrap_u64]); rfl)) ?_ | fail)
  exact hQ _ (LEnc.shut (t := t) (wd := wd) (en := en) (q := q) hS.to he)

theorem LCut_ok (hS : Sat E w (LEnc b e :: M)) (hk : e.s.k + 18 ≤ 140737488355328) (hQ : ∀ s w, Sat E w (rows cd_uint8 s e.s.bytes :: LEnc b e.cut :: M) → Q (.slice s.a e.s.bytes.length s.c) w) :
    Calls Tryd.prog 11 #[pz b] w (retP Q) := by
  refine lzenc_Encoder_Cut.calls ?_
  unfold lzenc_Encoder_Cut.F
  obtain ⟨he, t, wd, en, q, hS⟩ := LEnc.opn hS
  repeat' (first | (refine pc_rcenc_Encoder_Bytes (Bytes_ok (hS.fd (Enc en)) hk ?_); clear hS; intro sl w hS) | (refine pc_rcenc_New (NewE_ok hS ?_); clear hS; intro en2 w hS) | refine pN_l hS (by first | rfl | assumption) ?_ | (refine pN_s hS (by first | exact Nat.le_of_ble_eq_true rfl | assumption) (by rfl) ?_; clear hS; intro w hS; try simp only [List.set_cons_zero, List.set_cons_succ] at hS) | refine pN_via (by (intro K; simp (disch := omega) only [go_sem, pN_min, pN_max, w_u32, w_u64, Option.isNone_some, Option.isNone_none]; (try simp only [wrap_u32, wrap_u64]); rfl)) ?_ | fail)
  have hS : Sat E w (cel b ⟨54, encCells t wd en2⟩ :: cel t ⟨67, tbCells e.p e.st q⟩ :: Win wd e.x :: Enc en2 R.S.new :: tabs q e.T :: rows cd_uint8 sl e.s.bytes :: M) := hS.to
  have hS := LEnc.shut (e := ⟨e.p, e.st, e.T, e.x, R.S.new⟩) hS he.cut
  exact hQ _ _ (hS.perm (List.Perm.swap _ _ _))

theorem LReset_in {p : Z.Pr} (hp : p.Ok) (hS : Sat E w (LEnc b e :: M)) (hQ : ∀ w, Sat E w (LEnc b (e.reset p) :: M) → Q (.int .i64 0) w) :
    Calls Tryd.prog 10 #[pz b, .agg #[.int .i64 p.lc, .int .i64 p.lp, .int .i64 p.pb]] w (retP Q) := by
  refine lzenc_Encoder_Reset.calls ?_
  unfold lzenc_Encoder_Reset.F
  obtain ⟨he, t, wd, en, q, hS⟩ := LEnc.opn hS
  have er : e.reset p = ⟨p, Z.St.new, Z.T0 p, e.x, e.s⟩ := by rw [Z.EZ.reset, if_pos hp]
  have he2 := he.reset p
  rw [er] at hQ he2
  repeat' (first | (refine pc_state_PropsByte (PropsByte_in p hp hS ?_); clear hS; intro w hS) | (refine pc_model_New (MNew_ok hp hS ?_); clear hS; intro t2 q2 w hS) | (refine pN_neq_s ?_ ?_ <;> intro hc <;> try (exfalso; first | omega | exact hc rfl | exact hc (by assumption) | exact absurd hc (by assumption))) | refine pIf_f ?_ | refine pN_la hS (by rfl) ?_ | (refine pN_s hS (by first | exact Nat.le_of_ble_eq_true rfl | assumption) (by rfl) ?_; clear hS; intro w hS; try simp only [List.set_cons_zero, List.set_cons_succ] at hS) | (refine pN_bx hS (by rfl) ?_; clear hS; intro a w hS) | refine pN_via (by (intro K; simp (disch := omega) only [go_sem, pN_min, pN_max, w_u32, w_u64, Option.isNone_some, Option.isNone_none]; (try simp only [wrap_u32, wrap_u64]); rfl)) ?_ | fail)
  exact hQ _ (LEnc.shut (e := ⟨p, Z.St.new, Z.T0 p, e.x, e.s⟩) (t := t2) (wd := wd) (en := en) (q := q2) hS.to he2)
theorem LReset_no {p : Z.Pr} (hp : ¬ p.Ok) (hpb : -9223372036854775808 ≤ p.lc ∧ p.lc < 9223372036854775808) (hS : Sat E w (LEnc b e :: M)) (hQ : ∀ w, Sat E w (LEnc b e :: M) → Q (.int .i64 6) w) :
    Calls Tryd.prog 10 #[pz b, .agg #[.int .i64 p.lc, .int .i64 p.lp, .int .i64 p.pb]] w (retP Q) := by
  refine lzenc_Encoder_Reset.calls ?_
  unfold lzenc_Encoder_Reset.F
  repeat' (first | (refine pc_state_PropsByte (PropsByte_no p hp hpb hS ?_); clear hS; intro w hS) | (refine pN_neq_s ?_ ?_ <;> intro hc <;> try (exfalso; first | omega | exact hc rfl | exact hc (by assumption) | exact absurd hc (by assumption))) | refine pIf_t ?_ | refine pN_la hS (by rfl) ?_ | (refine pN_bx hS (by rfl) ?_; clear hS; intro a w hS) | refine pN_via (by (intro K; simp (disch := omega) only [go_sem, pN_min, pN_max, w_u32, w_u64, Option.isNone_some, Option.isNone_none]; (try simp only [wrap_u32, wrap_u64]); rfl)) ?_ | fail)
  exact hQ _ hS.to

theorem LClear_ok (hS : Sat E w (LEnc b e :: M)) (hQ : ∀ w, Sat E w (LEnc b e.clear :: M) → Q (.tuple #[]) w) :
    Calls Tryd.prog 14 #[pz b] w (retP Q) := by
  refine lzenc_Encoder_Clear.calls ?_
  unfold lzenc_Encoder_Clear.F
  obtain ⟨he, t, wd, en, q, hS⟩ := LEnc.opn hS
  repeat' (first | refine pN_la_at (n := 3) hS e.p.cells rfl rfl ?_ | (refine pc_model_New (MNew_ok he.p hS ?_); clear hS; intro t2 q2 w hS) | (refine pc_window_Window_Clear (WClear_ok (hS.fd (Win wd)) ?_); clear hS; intro w hS) | refine pN_l hS (by first | rfl | assumption) ?_ | (refine pN_s hS (by first | exact Nat.le_of_ble_eq_true rfl | assumption) (by rfl) ?_; clear hS; intro w hS; try simp only [List.set_cons_zero, List.set_cons_succ] at hS) | refine pN_via (by (intro K; simp (disch := omega) only [go_sem, pN_min, pN_max, w_u32, w_u64, Option.isNone_some, Option.isNone_none]; (try simp only [wrap_u32, wrap_u64]); rfl)) ?_ | fail)
  exact hQ _ (LEnc.shut (e := ⟨e.p, Z.St.new, Z.T0 e.p, ⟨e.x.size, []⟩, e.s⟩) (t := t2) (wd := wd) (en := en) (q := q2) hS.to he.clear)

theorem LFork_ok (hS : Sat E w (LEnc b e :: M)) (hk : e.s.k + 8 ≤ 140737488355328) (hQ : ∀ c w, Sat E w (LEnc c e :: LEnc b e :: M) → Q (pz c) w) :
    Calls Tryd.prog 12 #[pz b] w (retP Q) := by
  refine lzenc_Encoder_Fork.calls ?_
  unfold lzenc_Encoder_Fork.F
  obtain ⟨he, t, wd, en, q, hS⟩ := LEnc.opn hS
  repeat' (first | refine pL_l hS (by first | rfl | assumption) ?_ | (refine pDr_go hS ?_; clear hS; intro w hS) | refine pA_via (by (intro K; simp (disch := omega) only [go_sem, pN_min, pN_max, w_u32, w_u64, Option.isNone_some, Option.isNone_none]; (try simp only [wrap_u32, wrap_u64]); rfl)) ?_ | fail)
  have hT := capT_ok he.p he.T
  rw [capT_eq q e.T] at hS
  refine pc_model_Tables_Fork (MFork_ok (p := e.p) (s := e.st) (T := capT e.T) (hS.fd (cel t) |>.hs2 (cel t _) (tabs q (capT e.T))) hT fun t2 q2 w hS => ?_)
  rw [← capT_eq q e.T, ← capT_eq q2 e.T] at hS
  repeat' (first | (refine pc_window_Window_Fork (WFork_ok (hS.fd (Win wd)) ?_); clear hS; intro wd2 w hS) | (refine pc_rcenc_Encoder_Fork (Fork_ok' (hS.fd (Enc en)) hk ?_); clear hS; intro en2 w hS) | (refine pN_bx hS (by rfl) ?_; clear hS; intro a w hS) | refine ⟨trivial, ?_⟩ | refine ⟨⟨(by first | exact run_l hS (by first | rfl | assumption) | exact run_st hS (by first | rfl | omega) | exact run_ld1 ha hS | exact fun _ => run_l hS (by rfl) | exact fun _ => run_st hS (by first | rfl | omega) | exact fun _ => run_ld1 ha hS | exact fun h => Bool.noConfusion h), trivial⟩, ?_⟩ | refine ⟨⟨(by first | exact run_l hS (by first | rfl | assumption) | exact run_st hS (by first | rfl | omega) | exact run_ld1 ha hS | exact fun _ => run_l hS (by rfl) | exact fun _ => run_st hS (by first | rfl | omega) | exact fun _ => run_ld1 ha hS | exact fun h => Bool.noConfusion h), (by first | exact run_l hS (by first | rfl | assumption) | exact run_st hS (by first | rfl | omega) | exact run_ld1 ha hS | exact fun _ => run_l hS (by rfl) | exact fun _ => run_st hS (by first | rfl | omega) | exact fun _ => run_ld1 ha hS | exact fun h => Bool.noConfusion h), trivial⟩, ?_⟩ | refine pN_via (by (intro K; simp (disch := omega) only [go_sem, pN_min, pN_max, w_u32, w_u64, Option.isNone_some, Option.isNone_none]; (try simp only [wrap_u32, wrap_u64]); rfl)) ?_ | fail)
  have hS : Sat E w (cel a ⟨54, encCells t2 wd2 en2⟩ :: cel t2 ⟨67, tbCells e.p e.st q2⟩ :: Win wd2 e.x :: Enc en2 e.s :: tabs q2 e.T :: cel b ⟨54, encCells t wd en⟩ :: cel t ⟨67, tbCells e.p e.st q⟩ :: Win wd e.x :: Enc en e.s :: tabs q e.T :: M) := hS.to
  have hS := LEnc.shut (e := e) hS he
  have hS : Sat E w (cel b ⟨54, encCells t wd en⟩ :: cel t ⟨67, tbCells e.p e.st q⟩ :: Win wd e.x :: Enc en e.s :: tabs q e.T :: LEnc a e :: M) := hS.to
  have hS := LEnc.shut (e := e) hS he
  exact hQ _ _ (hS.perm (List.Perm.swap _ _ _))

set_option maxHeartbeats 2000000 in
theorem LCost_ok (hG : Glo W) (hS : Sat E w (LEnc b e :: M)) [h : Has (old W) M N] (hn : e.x.all.length ≤ 4611686018427387904)
    (hQ : ∀ w, Sat E w (LEnc b e :: M) → Q (.tuple #[.int .i64 (e.cost y), .int .i64 (e.may y)]) w) :
    Calls Tryd.prog 13 #[pz b, .agg #[.int .i64 y.Kind, bv y.Byte, .int .i64 y.Len, .int .i64 y.Dist]] w (retP Q) := by
  refine lzenc_Encoder_Cost.calls ?_
  unfold lzenc_Encoder_Cost.F
  obtain ⟨he, t, wd, en, q, hS⟩ := LEnc.opn hS
  by_cases hm : e.may y = 0
  · have hy := Z.may_err hm
    have hcost : e.cost y = Z.costO e.T (e.ops y) := by rw [Z.EZ.cost, if_pos hm]
    have hm' : Z.may e.x e.st y = 0 := hm
    rw [hcost, hm] at hQ
    repeat' (first | (refine pc_lzenc_Encoder_may (may_ok hG he.st (hS.fd3 (cel b) (cel t) (Win wd)) ?_); rw [hm']; clear hS; intro w hS) | refine pN_ifs ?_ | (refine pN_neq_s ?_ ?_ <;> intro hc <;> try (exfalso; first | omega | exact hc rfl | exact hc (by assumption) | exact absurd hc (by assumption))) | refine pIf_f ?_ | refine pN_la hS (by rfl) ?_ | (refine pN_nz hS ?_; clear hS; intro a w hS) | (refine pN_bx hS (by rfl) ?_; clear hS; intro a w hS) | fail)
    have hS := cstX.shut (p := e.p) (a := a) (q := q) (T := e.T) (m := []) (fun _ h => (by cases h)) (hS.hs2 (cel a ⟨71, [.int .i64 0]⟩) (tabs q e.T)) rfl
    refine pc_lzenc_Encoder_code (code_ok (X := cstX e.p a q e.T) (cst_snk he.p he.T) he.p he.st hy hS hn fun w hS => ?_)
    obtain ⟨_, hS⟩ := cstX.opn hS
    repeat' (first | refine pN_l hS (by first | rfl | assumption) ?_ | refine pN_via (by (intro K; simp (disch := omega) only [go_sem, pN_min, pN_max, w_u32, w_u64, Option.isNone_some, Option.isNone_none]; (try simp only [wrap_u32, wrap_u64]); rfl)) ?_ | fail)
    exact hQ _ (LEnc.shut (t := t) (wd := wd) (en := en) (q := q) hS.to he)
  · have hcost : e.cost y = 0 := by rw [Z.EZ.cost, if_neg hm]
    rw [hcost] at hQ
    have hm' : ¬ Z.may e.x e.st y = 0 := hm
    repeat' (first | (refine pc_lzenc_Encoder_may (may_ok hG he.st (hS.fd3 (cel b) (cel t) (Win wd)) ?_); clear hS; intro w hS) | (refine pN_neq_s ?_ ?_ <;> intro hc <;> try (exfalso; first | omega | exact hc rfl | exact hc (by assumption) | exact absurd hc (by assumption))) | refine pIf_t ?_ | refine pN_la hS (by rfl) ?_ | (refine pN_bx hS (by rfl) ?_; clear hS; intro a w hS) | fail)
    exact hQ _ (LEnc.shut (t := t) (wd := wd) (en := en) (q := q) hS.to he)

set_option maxHeartbeats 2000000 in
theorem LPut_ok (hG : Glo W) (hS : Sat E w (LEnc b e :: M)) [h : Has (old W) M N] (hn : e.x.all.length + 273 ≤ 4611686018427387904) (hk : e.s.k + 1000 ≤ 140737488355328)
    (hQ : ∀ w, Sat E w (LEnc b (e.put y) :: M) → Q (.int .i64 (e.may y)) w) :
    Calls Tryd.prog 9 #[pz b, .agg #[.int .i64 y.Kind, bv y.Byte, .int .i64 y.Len, .int .i64 y.Dist]] w (retP Q) := by
  refine lzenc_Encoder_Put.calls ?_
  unfold lzenc_Encoder_Put.F
  obtain ⟨he, t, wd, en, q, hS⟩ := LEnc.opn hS
  by_cases hm : e.may y = 0
  · have hy := Z.may_err hm
    have hput : e.put y = e.put1 y := by rw [Z.EZ.put, if_pos hm]
    have hm' : Z.may e.x e.st y = 0 := hm
    rw [hput, hm] at hQ
    repeat' (first | (refine pc_lzenc_Encoder_may (may_ok hG he.st (hS.fd3 (cel b) (cel t) (Win wd)) ?_); rw [hm']; clear hS; intro w hS) | refine pN_ifc ?_ | refine pL_la_at hS _ (by rfl) (by rfl) ?_ | refine ⟨⟨run_la_at hS _ (by rfl) (by rfl), trivial⟩, ?_⟩ | (refine pN_neq_s ?_ ?_ <;> intro hc <;> try (exfalso; first | omega | exact hc rfl | exact hc (by assumption) | exact absurd hc (by assumption))) | refine pIf_f ?_ | refine pL_l hS (by first | rfl | assumption) ?_ | refine pN_la hS (by rfl) ?_ | (refine pDr_go hS ?_; clear hS; intro w hS) | (refine pN_bx hS (by rfl) ?_; clear hS; intro a w hS) | refine pN_via (by (intro K; simp (disch := omega) only [go_sem, pN_min, pN_max, w_u32, w_u64, Option.isNone_some, Option.isNone_none]; (try simp only [wrap_u32, wrap_u64]); rfl)) ?_ | refine pA_via (by (intro K; simp (disch := omega) only [go_sem, pN_min, pN_max, w_u32, w_u64, Option.isNone_some, Option.isNone_none]; (try simp only [wrap_u32, wrap_u64]); rfl)) ?_ | fail)
    have hS := codX.shut (p := e.p) (en := en) (q := q) (z := ⟨e.s, e.T⟩) (m := []) (fun _ h => (by cases h)) (hS.hs2 (Enc en e.s) (tabs q e.T)) rfl
    refine pc_lzenc_Encoder_code (code_ok (X := codX e.p en q ⟨e.s, e.T⟩) (cod_snk he.p ⟨he.s, he.T⟩ hk) he.p he.st hy hS (by omega) fun w hS => ?_)
    obtain ⟨_, hS⟩ := codX.opn hS
    have hput1 := (he.put1 hm).1
    unfold Z.EZ.put1 Z.EZ.es Z.EZ.ops at hQ hput1
    generalize Z.runO ⟨e.s, e.T⟩ (Z.symOps e.p e.st e.x y) = zz at *
    repeat' (first | refine pL_la_at hS _ (by rfl) (by rfl) ?_ | refine ⟨trivial, ?_⟩ | refine pL_l hS (by first | rfl | assumption) ?_ | (refine pDr_go hS ?_; clear hS; intro w hS) | refine ⟨trivial, ?_⟩ | refine pA_via (by (intro K; simp (disch := omega) only [go_sem, pN_min, pN_max, w_u32, w_u64, Option.isNone_some, Option.isNone_none]; (try simp only [wrap_u32, wrap_u64]); rfl)) ?_ | fail)
    refine ⟨?_, ?_⟩
    · repeat' (first | (refine pc_symbol_Apply (Apply_in hG (hS.fd (Win wd)) he.st hm' hn ?_); clear hS; intro s' w hS) | (refine pN_sa hS (by rfl) (by rfl) (by rfl) ?_; clear hS; intro w hS; try dsimp only at hS) | (refine pN_nz hS ?_; clear hS; intro a w hS) | refine ⟨trivial, ?_⟩ | refine pA_via (by (intro K; simp (disch := omega) only [go_sem, pN_min, pN_max, w_u32, w_u64, Option.isNone_some, Option.isNone_none]; (try simp only [wrap_u32, wrap_u64]); rfl)) ?_ | fail)
      refine ⟨fun w => Sat E w (cel b ⟨54, encCells t wd en⟩ :: cel t ⟨67, tbCells e.p (e.st.next y) q⟩ :: Win wd (e.x.put (Z.made e.x e.st y)) :: Enc en zz.s :: tabs q zz.T :: M), ?_, ?_⟩
      · repeat' (first | refine pL_la_at (n := 5) hS (e.st.next y).cells rfl rfl ?_ | (refine pN_sa_at (us := (e.st.next y).cells) hS rfl (Nat.le_of_ble_eq_true rfl) rfl ?_; clear hS; intro w hS) | (refine pN_eql_s ?_ ?_ <;> intro hc <;> try (exfalso; first | omega | exact hc rfl | exact hc (by assumption) | exact absurd hc (by assumption))) | refine pIf_t ?_ | refine pL_l hS (by first | rfl | assumption) ?_ | (refine pDr_go hS ?_; clear hS; intro w hS) | refine ⟨trivial, ?_⟩ | refine pA_via (by (intro K; simp (disch := omega) only [go_sem, pN_min, pN_max, w_u32, w_u64, Option.isNone_some, Option.isNone_none]; (try simp only [wrap_u32, wrap_u64]); rfl)) ?_ | fail)
        have hS := cel_conv (o' := ⟨67, tbCells e.p (e.st.next y) q⟩) rfl hS
        exact hS.to
      · clear hS
        rintro _ w hS
        exact hQ _ (LEnc.shut (e := ⟨e.p, e.st.next y, zz.T, e.x.put (Z.made e.x e.st y), zz.s⟩) (t := t) (wd := wd) (en := en) (q := q) hS.to hput1)
    · repeat' (first | refine ⟨⟨run_la_at hS _ (by rfl) (by rfl), run_la_at (n := 5) hS e.st.cells rfl rfl, run_l hS (by rfl), run_l hS (by rfl), trivial⟩, ?_⟩ | (refine pc_symbol_Apply (Apply_in hG (hS.fd (Win wd)) he.st hm' hn ?_); clear hS; intro s' w hS) | (refine pN_sa hS (by rfl) (by rfl) (by rfl) ?_; clear hS; intro w hS; try dsimp only at hS) | (refine pN_nz hS ?_; clear hS; intro a w hS) | refine ⟨trivial, ?_⟩ | refine pA_via (by (intro K; simp (disch := omega) only [go_sem, pN_min, pN_max, w_u32, w_u64, Option.isNone_some, Option.isNone_none]; (try simp only [wrap_u32, wrap_u64]); rfl)) ?_ | fail)
      refine ⟨fun w => Sat E w (cel b ⟨54, encCells t wd en⟩ :: cel t ⟨67, tbCells e.p (e.st.next y) q⟩ :: Win wd (e.x.put (Z.made e.x e.st y)) :: Enc en zz.s :: tabs q zz.T :: M), ?_, ?_⟩
      · repeat' (first | refine pL_la_at (n := 5) hS (e.st.next y).cells rfl rfl ?_ | (refine pN_sa_at (us := (e.st.next y).cells) hS rfl (Nat.le_of_ble_eq_true rfl) rfl ?_; clear hS; intro w hS) | (refine pN_eql_s ?_ ?_ <;> intro hc <;> try (exfalso; first | omega | exact hc rfl | exact hc (by assumption) | exact absurd hc (by assumption))) | refine pIf_t ?_ | refine pL_l hS (by first | rfl | assumption) ?_ | (refine pDr_go hS ?_; clear hS; intro w hS) | refine ⟨trivial, ?_⟩ | refine pA_via (by (intro K; simp (disch := omega) only [go_sem, pN_min, pN_max, w_u32, w_u64, Option.isNone_some, Option.isNone_none]; (try simp only [wrap_u32, wrap_u64]); rfl)) ?_ | fail)
        have hS := cel_conv (o' := ⟨67, tbCells e.p (e.st.next y) q⟩) rfl hS
        exact hS.to
      · clear hS
        rintro _ w hS
        exact hQ _ (LEnc.shut (e := ⟨e.p, e.st.next y, zz.T, e.x.put (Z.made e.x e.st y), zz.s⟩) (t := t) (wd := wd) (en := en) (q := q) hS.to hput1)
  · have hput : e.put y = e := by rw [Z.EZ.put, if_neg hm]
    rw [hput] at hQ
    have hm' : ¬ Z.may e.x e.st y = 0 := hm
    repeat' (first | (refine pc_lzenc_Encoder_may (may_ok hG he.st (hS.fd3 (cel b) (cel t) (Win wd)) ?_); clear hS; intro w hS) | (refine pN_neq_s ?_ ?_ <;> intro hc <;> try (exfalso; first | omega | exact hc rfl | exact hc (by assumption) | exact absurd hc (by assumption))) | refine pIf_t ?_ | refine pN_la hS (by rfl) ?_ | (refine pN_bx hS (by rfl) ?_; clear hS; intro a w hS) | fail)
    exact hQ _ (LEnc.shut (t := t) (wd := wd) (en := en) (q := q) hS.to he)
end

end Go.Proofs.YtbgnnjfpiblkmaaDoor
