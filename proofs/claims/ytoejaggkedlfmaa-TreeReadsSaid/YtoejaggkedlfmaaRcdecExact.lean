/-
  The statement RcdecExact, walked.
-/
import Derived.Test.YtoejaggkedlfmaaDecQ
namespace Go.Proofs.Ytoejaggkedlfmaa
open Go
set_option linter.unusedSimpArgs false
set_option linter.unnecessarySimpa false
set_option linter.unusedSectionVars false
set_option linter.unusedVariables false
attribute [local irreducible] oMv oV oU oCall oCallV oBi oBin oUn oLoad oStore oNil oFld oField oIdx oIndex oPick oAlloc oBox oBuild oBs oConv oMk oSl oExt oFn oIface oMap oLook oMapUp oRange oNext oAssert oPanic oRes pN pA pL pDr pIf gA pGd

/-- Errnos are small. -/
theorem D.bitQ_e (st : D.S) (l : List Int) (i : Int) : -9223372036854775808 ≤ (st.bitQ l i).2.2.2 ∧ (st.bitQ l i).2.2.2 < 9223372036854775808 := by
  unfold D.S.bitQ
  split
  · unfold D.S.bit
    split
    · exact ⟨by simp, by simp⟩
    · rename_i e he
      split at he
      · cases he
      · cases he; exact ⟨by simp, by simp⟩
  · exact ⟨by simp, by simp⟩
theorem D.direct_e : ∀ (n : Nat) (st : D.S) (v e : Int), st.direct v n = .no e → e = 1 ∨ e = 2
  | 0, st, v, e, h => by cases h
  | n + 1, st, v, e, h => by
    simp only [D.S.direct] at h
    split at h
    · cases h; exact .inr rfl
    · split at h
      · cases h; exact .inl rfl
      · exact D.direct_e n _ _ _ h
theorem D.dirQ_e (st : D.S) (n : Int) : -9223372036854775808 ≤ (st.dirQ n).2.2 ∧ (st.dirQ n).2.2 < 9223372036854775808 := by
  unfold D.S.dirQ
  split
  · split
    · exact ⟨by simp, by simp⟩
    · rename_i e he
      rcases D.direct_e _ _ _ _ he with rfl | rfl <;> exact ⟨by simp, by simp⟩
  · exact ⟨by simp, by simp⟩

theorem D.start_e {b : List UInt8} {e : Int} (h : D.start b = .no e) : e = 1 ∨ e = 2 := by
  unfold D.start at h
  split at h
  · cases h; exact .inl rfl
  · split at h
    · cases h; exact .inr rfl
    · cases h

theorem pA_slh {P : Program} {E w : World} {J : Value → Prop} {L : List HA} {α : Type} {C : Cd α} {t : TypeId} {s : Sl} {l : List α} {n : Nat} {k2 : IntKind} {i2 : Int} (hS : Sat E w L) [Row P t α C] [h : Rds C L s l] (hi : Nat) (h2 : i2 = (hi : Int)) (hn : n = l.length) (hhi : hi ≤ l.length)
    (hk : ∀ s', Part C s l s' (l.take hi) → J (.slice s'.a hi s'.c)) : pA P (oSl t (.slice s.a n s.c) none (some (.int k2 i2)) none) J := by
  subst h2 hn
  refine pA_sl_h (Row.slt (C := C)) (hS.rds (C := C) (s := s)) (by omega) (by omega) ?_
  rw [Int.toNat_natCast, subV_sl]
  refine hk _ ⟨fun L h => ?_⟩
  have := Rds.sub (C := C) (L := L) (s := s) (l := l) 0 hi (Nat.zero_le _) hhi
  rwa [List.drop_zero, Nat.sub_zero] at this

def EInv (W : World) (d r p q n : Nat) (b : List UInt8) (w : World) : Prop := ∃ (st : D.S) (l : List Int), D.Ok st ∧ st.b = b ∧ B.Fine l ∧ l.length = n ∧ Sat W w [Dec d st, RDec r st, PSet p l, RSet q l, old W]

set_option maxHeartbeats 8000000 in
theorem walk_RcdecExact (W : World) (x0 : Sl × List UInt8) (x1 : Int) (x2 : Sl × List T_pithlaw08_Ask) (k0 k1 k2 : Nat)
    (h0 : RdP cd_uint8 (old W) x0.1 x0.2 ∧ x0.2.length * 1 ≤ reachBytes ∧ x0.2.length + 1 ≤ k0 ∧ ∀ c ∈ x0.2, ∃ k, k ≤ k0 ∧ True) (h1 : -9223372036854775808 ≤ x1 ∧ x1 < 9223372036854775808)
    (h2 : RdP cd_pithlaw08_Ask (old W) x2.1 x2.2 ∧ x2.2.length * 32 ≤ reachBytes ∧ x2.2.length + 1 ≤ k2 ∧ ∀ c ∈ x2.2, ∃ k, k ≤ k2 ∧ c.ok W k) :
    Calls Try.prog 8 #[.slice x0.1.a x0.2.length x0.1.c, .int .i64 x1, .slice x2.1.a x2.2.length x2.1.c] W fun e W' => e = .returned (.bool true) ∧ RowKit.Below W.heap.size W W' := by
  refine walk_end (pithlaw08_RcdecExact.calls ?_)
  unfold pithlaw08_RcdecExact.F
  obtain ⟨r0, s0, _, _⟩ := h0
  obtain ⟨r2, s2, _, o2⟩ := h2
  have hrb : reachBytes = 140737488351232 := rfl
  obtain ⟨b, l⟩ := x0
  dsimp only at r0 s0 ⊢
  have hS := Sat.start W
  by_cases hn : 0 ≤ x1 ∧ x1 ≤ 64
  rotate_left 1
  · repeat' (first | (refine pc_pithlaw08_known (known_ok hS ?_); clear hS; intro w hS) | ((first | refine pN_lss_s ?_ ?_ | refine pN_gtr_s ?_ ?_) <;> intro hc <;> try (exfalso; omega)) | refine pIf_t ?_ | refine pGd_go (by rfl) ?_ | refine pGd_no (by rfl) ?_ | refine pN_via (by (intro K; simp (disch := omega) only [go_sem, pN_min, pN_max, w_u32, w_u64, Option.isNone_some, Option.isNone_none]; (try simp only [wrap_u32, wrap_u64]); rfl)) ?_ | fail)
    all_goals exact ⟨rfl, hS⟩
  obtain ⟨n, rfl⟩ : ∃ n : Nat, x1 = n := ⟨x1.toNat, by omega⟩
  repeat' (first | ((first | refine pN_lss_s ?_ ?_ | refine pN_gtr_s ?_ ?_) <;> intro hc <;> try (exfalso; omega)) | refine pIf_f ?_ | refine pGd_go (by rfl) ?_ | (refine pN_b1 hS (by rfl) (by decide) ?_; clear hS; intro s w hS) | (refine pN_b0 hS ?_; clear hS; intro s w hS) | (refine pN_app hS (by first | rfl | omega | simpa only [go_sem] using True.intro | (simp only [go_sem]; omega)) (by first | rfl | omega | simpa only [go_sem] using True.intro | (simp only [go_sem]; omega)) (by first | omega | (simp only [go_sem]; omega)) ?_; clear hS; intro s w hS) | refine pN_via (by (intro K; simp (disch := omega) only [go_sem, pN_min, pN_max, w_u32, w_u64, Option.isNone_some, Option.isNone_none]; (try simp only [wrap_u32, wrap_u64]); rfl)) ?_ | fail)
  rw [List.nil_append] at *
  have hS : Sat W w [rows cd_uint8 s (l ++ [153]), old W] := hS.to
  have hx0 : (l ++ [(153 : UInt8)])[l.length]? = some 153 := by simp
  have hlen : (l ++ [(153 : UInt8)]).length = l.length + 1 := by simp
  refine pN_slh hS l.length rfl rfl (by simp) fun s4 hp => ?_
  have hr4 : ∀ (L : List HA) [Rds cd_uint8 L s (l ++ [153])], Rds cd_uint8 L s4 l := fun L h => by
    have := hp.rd L h
    rwa [List.take_left' rfl] at this
  rcases hst : D.start l with ⟨t, u⟩ | e
  rotate_left 1
  · have he := D.start_e hst
    refine pc_rcdec_New (DNew_no hS (by omega) hst fun w hS => ?_)
    repeat' (first | refine pc_pithlaw08_num (num_ok _ (by omega) ?_) | (refine pc_pithref08_New (R8New_no hS (by omega) hst ?_); clear hS; intro w hS) | (refine pA_neq_s ?_ ?_ <;> intro hc <;> try (exfalso; first | omega | exact hc rfl | exact hc (by assumption) | exact absurd hc (by assumption))) | refine gA_go (by rfl) ?_ | (refine pDr_go hS ?_; clear hS; intro w hS) | refine ⟨trivial, ?_⟩ | refine pN_via (by (intro K; simp (disch := omega) only [go_sem, pN_min, pN_max, w_u32, w_u64, Option.isNone_some, Option.isNone_none]; (try simp only [wrap_u32, wrap_u64]); rfl)) ?_ | refine pA_via (by (intro K; simp (disch := omega) only [go_sem, pN_min, pN_max, w_u32, w_u64, Option.isNone_some, Option.isNone_none]; (try simp only [wrap_u32, wrap_u64]); rfl)) ?_ | fail)
    refine pA_slh hS l.length rfl (by simp) (by simp) fun s5 hp5 => ?_
    have hr5 : ∀ (L : List HA) [Rds cd_uint8 L s (l ++ [153])], Rds cd_uint8 L s5 l := fun L h => by
      have := hp5.rd L h
      rwa [List.take_left' rfl] at this
    simp only [bne_self_eq_false]
    repeat' (first | (refine pc_pithlaw08_known (known_ok hS ?_); clear hS; intro w hS) | ((first | refine pA_neq_s ?_ ?_ | refine pA_neq_ss ?_ ?_) <;> intro hc <;> try (exfalso; first | omega | exact hc rfl | exact hc (by assumption) | exact absurd hc (by assumption))) | refine pIf_t ?_ | refine pIf_f ?_ | refine gA_go (by rfl) ?_ | refine pL_ld1 ha hS ?_ | refine pA_ixk hS _ (by first | rfl | (exact (Int.toNat_of_nonneg (by omega)).symm)) (by first | rfl | omega | simpa only [go_sem] using True.intro | (simp only [go_sem]; omega)) (by assumption) fun a ha hel => ?_ | refine pL_st hS (by first | rfl | omega | simpa only [go_sem] using True.intro | (simp only [go_sem]; omega)) ?_ | refine pN_via (by (intro K; simp (disch := omega) only [go_sem, pN_min, pN_max, w_u32, w_u64, Option.isNone_some, Option.isNone_none]; (try simp only [wrap_u32, wrap_u64]); rfl)) ?_ | refine pA_via (by (intro K; simp (disch := omega) only [go_sem, pN_min, pN_max, w_u32, w_u64, Option.isNone_some, Option.isNone_none]; (try simp only [wrap_u32, wrap_u64]); rfl)) ?_ | fail)
    exact ⟨rfl, hS.to⟩
  · refine pc_rcdec_New (DNew_in hS (by omega) hst fun d w hS => ?_)
    repeat' (first | refine pc_pithlaw08_num (num_ok _ (by omega) ?_) | (refine pc_pithref08_New (R8New_in hS (by omega) hst ?_); clear hS; intro r w hS) | (refine pA_neq_s ?_ ?_ <;> intro hc <;> try (exfalso; first | omega | exact hc rfl | exact hc (by assumption) | exact absurd hc (by assumption))) | refine gA_go (by rfl) ?_ | (refine pDr_go hS ?_; clear hS; intro w hS) | refine ⟨trivial, ?_⟩ | refine pN_via (by (intro K; simp (disch := omega) only [go_sem, pN_min, pN_max, w_u32, w_u64, Option.isNone_some, Option.isNone_none]; (try simp only [wrap_u32, wrap_u64]); rfl)) ?_ | refine pA_via (by (intro K; simp (disch := omega) only [go_sem, pN_min, pN_max, w_u32, w_u64, Option.isNone_some, Option.isNone_none]; (try simp only [wrap_u32, wrap_u64]); rfl)) ?_ | fail)
    refine pA_slh hS l.length rfl (by simp) (by simp) fun s5 hp5 => ?_
    have hr5 : ∀ (L : List HA) [Rds cd_uint8 L s (l ++ [153])], Rds cd_uint8 L s5 l := fun L h => by
      have := hp5.rd L h
      rwa [List.take_left' rfl] at this
    simp only [bne_self_eq_false]
    have hto := D.start_ok hst
    repeat' (first | ((first | refine pA_neq_s ?_ ?_ | refine pA_neq_ss ?_ ?_) <;> intro hc <;> try (exfalso; first | omega | exact hc rfl | exact hc (by assumption) | exact absurd hc (by assumption))) | refine pIf_f ?_ | refine gA_go (by rfl) ?_ | refine pL_ld1 ha hS ?_ | refine pA_ixk hS _ (by first | rfl | (exact (Int.toNat_of_nonneg (by omega)).symm)) (by first | rfl | omega | simpa only [go_sem] using True.intro | (simp only [go_sem]; omega)) (by assumption) fun a ha hel => ?_ | refine pL_st hS (by first | rfl | omega | simpa only [go_sem] using True.intro | (simp only [go_sem]; omega)) ?_ | refine pN_via (by (intro K; simp (disch := omega) only [go_sem, pN_min, pN_max, w_u32, w_u64, Option.isNone_some, Option.isNone_none]; (try simp only [wrap_u32, wrap_u64]); rfl)) ?_ | refine pA_via (by (intro K; simp (disch := omega) only [go_sem, pN_min, pN_max, w_u32, w_u64, Option.isNone_some, Option.isNone_none]; (try simp only [wrap_u32, wrap_u64]); rfl)) ?_ | fail)
    have hS : Sat W w [rows cd_uint8 s (l ++ [153]), Dec d t, RDec r t, old W] := hS.to
    rw [hlen]
    refine ⟨fun v w => ∃ (i : Nat) (l' : List UInt8), v = .int .i64 i ∧ i ≤ l.length + 1 ∧ l'.length = l.length + 1 ∧ Sat W w [rows cd_uint8 s l', Dec d t, RDec r t, old W], fun v _ => l.length + 1 - (RowKit.intOf v).toNat, ⟨0, _, rfl, Nat.zero_le _, hlen, hS⟩, ?_⟩
    clear hS
    rintro _ _ w ⟨i, l', rfl, hi, hl', hS⟩
    by_cases hlt : i < l.length + 1
    · repeat' (first | (refine pN_lss_s ?_ ?_ <;> intro hc <;> try (exfalso; omega)) | refine pIf_t ?_ | refine pN_ix hS _ (by first | rfl | (exact (Int.toNat_of_nonneg (by omega)).symm)) (by first | rfl | omega | simpa only [go_sem] using True.intro | (simp only [go_sem]; omega)) (by first | omega | (simp only [go_sem]; omega)) fun a x hx ha hel => ?_ | (refine pN_sr hel hS (by rfl) (by rfl) (by first | omega | (simp only [go_sem]; omega)) ?_; clear hS; intro w hS) | refine pN_via (by (intro K; simp (disch := omega) only [go_sem, pN_min, pN_max, w_u32, w_u64, Option.isNone_some, Option.isNone_none]; (try simp only [wrap_u32, wrap_u64]); rfl)) ?_ | fail)
      exact ⟨⟨i + 1, _, rfl, by omega, by rw [List.length_set]; exact hl', hS⟩, by simp [RowKit.intOf] <;> omega⟩
    repeat' (first | refine pc_pithlaw08_num (num_ok _ (by omega) ?_) | (refine pc_prob_New (New_ok hS n (by omega) (by omega) ?_); clear hS; intro p w hS) | (refine pc_pithref06_New (RNew_ok hS n (by omega) (by omega) ?_); clear hS; intro q w hS) | (refine pN_lss_s ?_ ?_ <;> intro hc <;> try (exfalso; omega)) | (refine pN_neq_s ?_ ?_ <;> intro hc <;> try (exfalso; first | omega | exact hc rfl | exact hc (by assumption) | exact absurd hc (by assumption))) | refine pIf_f ?_ | refine pGd_go (by rfl) ?_ | refine pN_via (by (intro K; simp (disch := omega) only [go_sem, pN_min, pN_max, w_u32, w_u64, Option.isNone_some, Option.isNone_none]; (try simp only [wrap_u32, wrap_u64]); rfl)) ?_ | fail)
    rw [Int.toNat_natCast] at hS
    have hinv : EInv W d r p q n l w := ⟨t, List.replicate n 1024, hto.1, hto.2.1, B.Fine.new n, List.length_replicate, hS.to⟩
    clear hS
    refine ⟨fun v w => ∃ i : Nat, v = .int .i64 i ∧ i ≤ x2.2.length ∧ EInv W d r p q n l w, fun v _ => x2.2.length - (RowKit.intOf v).toNat, ⟨0, rfl, Nat.zero_le _, hinv⟩, ?_⟩
    rintro _ _ w ⟨i, rfl, hi, st, ps, ho, hsb, hf, hpn, hS⟩
    have hbl : st.b.length ≤ 140737488355328 := by rw [hsb]; omega
    by_cases hlt : i < x2.2.length
    · obtain ⟨y, hy⟩ : ∃ y, x2.2[i]? = some y := ⟨x2.2[i]'hlt, by simp⟩
      obtain ⟨dir, ai, an, av⟩ := y
      repeat' (first | (refine pN_lss_s ?_ ?_ <;> intro hc <;> try (exfalso; omega)) | refine pIf_t ?_ | fail)
      refine ⟨fun w => EInv W d r p q n l w, ?_, ?_⟩
      rotate_left 1
      · clear hS
        rintro _ w hinv
        repeat' (first | refine pN_via (by (intro K; simp (disch := omega) only [go_sem, pN_min, pN_max, w_u32, w_u64, Option.isNone_some, Option.isNone_none]; (try simp only [wrap_u32, wrap_u64]); rfl)) ?_ | fail)
        exact ⟨⟨i + 1, rfl, by omega, hinv⟩, by simp [RowKit.intOf] <;> omega⟩
      repeat' (first | refine pN_ld_at ha hS (by rfl) ?_ | (refine pN_sa hS (by rfl) (by rfl) (by rfl) ?_; clear hS; intro w hS; try dsimp only at hS) | (refine pN_nz hS ?_; clear hS; intro a w hS) | refine pN_ixk hS _ (by first | rfl | (exact (Int.toNat_of_nonneg (by omega)).symm)) (by first | rfl | omega | simpa only [go_sem] using True.intro | (simp only [go_sem]; omega)) (by assumption) fun a ha hel => ?_ | fail)
      refine ⟨fun w => EInv W d r p q n l w, ?_, ?_⟩
      · rcases dir with _ | _
        · have he := D.bitQ_e st ps ai
          have hk := D.bitQ_ok ho hf ai
          repeat' (first | refine pc_pithlaw08_num (num_ok _ he ?_) | (refine pc_rcdec_Decoder_Bit (DBit_q (hS.fd2 (Dec d) (PSet p)) ho hf (by omega) ai ?_); clear hS; intro w hS) | (refine pc_pithref08_Decoder_Bit (R8Bit_q (hS.fd2 (RDec r) (RSet q)) ho hf hbl ai ?_); clear hS; intro w hS) | (refine pN_neq_s ?_ ?_ <;> intro hc <;> try (exfalso; first | omega | exact hc rfl | exact hc (by assumption) | exact absurd hc (by assumption))) | refine pIf_f ?_ | refine pGd_go (by rfl) ?_ | refine pN_l hS (by first | rfl | assumption) ?_ | refine pN_via (by (intro K; simp (disch := omega) only [go_sem, pN_min, pN_max, w_u32, w_u64, Option.isNone_some, Option.isNone_none]; (try simp only [wrap_u32, wrap_u64]); rfl)) ?_ | fail)
          exact ⟨_, _, hk.1, hk.2.1.trans hsb, hk.2.2.1, hk.2.2.2.trans hpn, hS.to⟩
        · have he := D.dirQ_e st an
          have hk := D.dirQ_ok ho an
          repeat' (first | refine pc_pithlaw08_num (num_ok _ he ?_) | (refine pc_rcdec_Decoder_Direct (DDirect_q (hS.fd (Dec d)) ho (by omega) an ?_); clear hS; intro w hS) | (refine pc_pithref08_Decoder_Direct (R8Direct_q (hS.fd (RDec r)) ho hbl an ?_); clear hS; intro w hS) | (refine pN_neq_s ?_ ?_ <;> intro hc <;> try (exfalso; first | omega | exact hc rfl | exact hc (by assumption) | exact absurd hc (by assumption))) | refine pIf_t ?_ | refine pIf_f ?_ | refine pGd_go (by rfl) ?_ | refine pN_l hS (by first | rfl | assumption) ?_ | refine pN_via (by (intro K; simp (disch := omega) only [go_sem, pN_min, pN_max, w_u32, w_u64, Option.isNone_some, Option.isNone_none]; (try simp only [wrap_u32, wrap_u64]); rfl)) ?_ | fail)
          exact ⟨_, _, hk.1, hk.2.trans hsb, hf, hpn, hS.to⟩
      clear hS
      rintro _ w ⟨st2, ps2, ho2, hsb2, hf2, hpn2, hS⟩
      repeat' (first | (refine pc_rcdec_Decoder_Used (Used_ok (hS.fd (Dec d)) ?_); clear hS; intro w hS) | (refine pc_pithref08_Decoder_Used (R8Used_ok (hS.fd (RDec r)) ?_); clear hS; intro w hS) | (refine pc_rcdec_Decoder_Done (Done_ok (hS.fd (Dec d)) ?_); clear hS; intro w hS) | (refine pc_pithref08_Decoder_Done (R8Done_ok (hS.fd (RDec r)) ?_); clear hS; intro w hS) | (refine pN_neq_s ?_ ?_ <;> intro hc <;> try (exfalso; first | omega | exact hc rfl | exact hc (by assumption) | exact absurd hc (by assumption))) | refine pGd_go (by rfl) ?_ | refine pN_via (by (intro K; simp (disch := omega) only [go_sem, pN_min, pN_max, w_u32, w_u64, Option.isNone_some, Option.isNone_none]; (try simp only [wrap_u32, wrap_u64]); rfl)) ?_ | fail)
      rw [bne_self_eq_false]
      exact pIf_f ⟨st2, ps2, ho2, hsb2, hf2, hpn2, hS.to⟩
    · repeat' (first | (refine pc_pithlaw08_alike (alike8_ok (hS.fd2 (PSet p) (RSet q)) n (by omega) (by omega) ?_); clear hS; intro w hS) | (refine pc_pithlaw08_known (known_ok hS ?_); clear hS; intro w hS) | (refine pN_lss_s ?_ ?_ <;> intro hc <;> try (exfalso; omega)) | refine pIf_f ?_ | refine pGd_go (by rfl) ?_ | refine pN_via (by (intro K; simp (disch := omega) only [go_sem, pN_min, pN_max, w_u32, w_u64, Option.isNone_some, Option.isNone_none]; (try simp only [wrap_u32, wrap_u64]); rfl)) ?_ | fail)
      exact ⟨rfl, hS.to⟩

end Go.Proofs.Ytoejaggkedlfmaa
