/-
  Package rcdec: Direct, New, Used, Done.
-/
import Derived.Test.YtoejaggkedlfmaaDec
import Derived.Test.YtoejaggkedlfmaaTPure
import Derived.Test.YtoejaggkedlfmaaWide
namespace Go.Proofs.Ytoejaggkedlfmaa
open Go
set_option linter.unusedSimpArgs false
set_option linter.unnecessarySimpa false
set_option linter.unusedSectionVars false
set_option linter.unusedVariables false
attribute [local irreducible] oMv oV oU oCall oCallV oBi oBin oUn oLoad oStore oNil oFld oField oIdx oIndex oPick oAlloc oBox oBuild oBs oConv oMk oSl oExt oFn oIface oMap oLook oMapUp oRange oNext oAssert oPanic oRes pN pA pL pDr pIf gA pGd
attribute [local irreducible] oDf pDf dE

section
variable {E w : World} {M : List HA} {Q : Value → World → Prop} {d : Nat} {st : D.S}

/-- The closure of Direct, where nothing panics. -/
theorem DirC_idle {x2 x4 x5 : Nat} {v : Int} {k R C : Int}
    (hS : Sat E w (Dec d st :: cel x2 ⟨75, [.pointer (some ⟨d, 0, none⟩)]⟩ :: cel x4 ⟨26, [.int .u32 v]⟩ :: cel x5 ⟨27, [.int .i64 0]⟩ :: M))
    (hQ : ∀ w, Sat E w (Dec d st :: cel x2 ⟨75, [.pointer (some ⟨d, 0, none⟩)]⟩ :: cel x4 ⟨26, [.int .u32 v]⟩ :: cel x5 ⟨27, [.int .i64 0]⟩ :: M) → Q (.tuple #[]) w) :
    rcdec_Decoder_Direct_c1.F .nilIface (.agg #[.int .i64 k, .int .u32 R, .int .u32 C]) (.pointer (some ⟨x2, 0, none⟩)) (.pointer (some ⟨x5, 0, none⟩)) (.pointer (some ⟨x4, 0, none⟩)) w Q := by
  unfold rcdec_Decoder_Direct_c1.F
  repeat' (first | (refine pc_rcdec_Decoder_back (back_nil (d := d) hS ?_); clear hS; intro w hS) | (refine pN_neq_s ?_ ?_ <;> intro hc <;> try (exfalso; first | omega | exact hc rfl | exact hc (by assumption) | exact absurd hc (by assumption))) | refine pIf_f ?_ | refine pN_l hS (by first | rfl | assumption) ?_ | refine pL_l hS (by first | rfl | assumption) ?_ | refine pL_la hS (by rfl) ?_ | (refine pN_s hS (by first | exact Nat.le_of_ble_eq_true rfl | assumption) (by rfl) ?_; clear hS; intro w hS; try simp only [List.set_cons_zero, List.set_cons_succ] at hS) | (refine pDr_go hS ?_; clear hS; intro w hS) | (refine pN_bx hS (by rfl) ?_; clear hS; intro a w hS) | refine ⟨trivial, ?_⟩ | fail)
  exact hQ _ hS.to

/-- The closure of Direct, where the decoder refuses. -/
theorem DirC_ref {x2 x4 x5 : Nat} {v e0 : Int} {k : Nat} {R C e : Int} (he : e ≠ 0)
    (hS : Sat E w (Dec d st :: cel x2 ⟨75, [.pointer (some ⟨d, 0, none⟩)]⟩ :: cel x4 ⟨26, [.int .u32 v]⟩ :: cel x5 ⟨27, [.int .i64 e0]⟩ :: M))
    (hQ : ∀ w, Sat E w (Dec d ⟨st.b, k, R, C⟩ :: cel x2 ⟨75, [.pointer (some ⟨d, 0, none⟩)]⟩ :: cel x4 ⟨26, [.int .u32 0]⟩ :: cel x5 ⟨27, [.int .i64 e]⟩ :: M) → Q (.tuple #[]) w) :
    rcdec_Decoder_Direct_c1.F (refd e) (.agg #[.int .i64 k, .int .u32 R, .int .u32 C]) (.pointer (some ⟨x2, 0, none⟩)) (.pointer (some ⟨x5, 0, none⟩)) (.pointer (some ⟨x4, 0, none⟩)) w Q := by
  unfold rcdec_Decoder_Direct_c1.F
  repeat' (first | (refine pc_rcdec_Decoder_back (back_ref (hS.fd (Dec d)) k R C e ?_); clear hS; intro w hS) | (refine pN_neq_s ?_ ?_ <;> intro hc <;> try (exfalso; first | omega | exact hc rfl | exact hc (by assumption) | exact absurd hc (by assumption))) | refine pIf_t ?_ | refine pN_l hS (by first | rfl | assumption) ?_ | refine pL_l hS (by first | rfl | assumption) ?_ | refine pL_la hS (by rfl) ?_ | (refine pN_s hS (by first | exact Nat.le_of_ble_eq_true rfl | assumption) (by rfl) ?_; clear hS; intro w hS; try simp only [List.set_cons_zero, List.set_cons_succ] at hS) | (refine pDr_go hS ?_; clear hS; intro w hS) | (refine pN_bx hS (by rfl) ?_; clear hS; intro a w hS) | refine ⟨trivial, ?_⟩ | fail)
  exact hQ _ hS.to

set_option maxHeartbeats 2000000 in
theorem DDirect_ok (hS : Sat E w (Dec d st :: M)) (ho : D.Ok st) (hb : st.b.length ≤ 225000000000000) (n : Int)
    (hno : ¬ (0 ≤ n ∧ n ≤ 32) → ∀ w, Sat E w (Dec d st :: M) → Q (.tuple #[.int .u32 0, .int .i64 7]) w)
    (hok : ∀ t v w, 0 ≤ n → n ≤ 32 → st.direct 0 n.toNat = .ok t v → Sat E w (Dec d t :: M) → Q (.tuple #[.int .u32 v, .int .i64 0]) w)
    (hre : ∀ e w, 0 ≤ n → n ≤ 32 → st.direct 0 n.toNat = .no e → Sat E w (Dec d st :: M) → Q (.tuple #[.int .u32 0, .int .i64 e]) w) :
    Calls Try.prog 47 #[.pointer (some ⟨d, 0, none⟩), .int .i64 n] w (retP Q) := by
  refine rcdec_Decoder_Direct.calls ?_
  unfold rcdec_Decoder_Direct.F
  by_cases h : 0 ≤ n ∧ n ≤ 32
  rotate_left 1
  · repeat' (first | ((first | refine pN_lss_s ?_ ?_ | refine pN_gtr_s ?_ ?_) <;> intro hc <;> try (exfalso; omega)) | refine pIf_t ?_ | refine pGd_go (by rfl) ?_ | refine pGd_no (by rfl) ?_ | refine pL_r hS (by rfl) ?_ | (refine pN_s hS (by first | exact Nat.le_of_ble_eq_true rfl | assumption) (by rfl) ?_; clear hS; intro w hS; try simp only [List.set_cons_zero, List.set_cons_succ] at hS) | (refine pN_nz hS ?_; clear hS; intro a w hS) | (refine pN_bx hS (by rfl) ?_; clear hS; intro a w hS) | refine pN_via (by (intro K; simp (disch := omega) only [go_sem, pN_min, pN_max, w_u32, w_u64, Option.isNone_some, Option.isNone_none]; (try simp only [wrap_u32, wrap_u64]); rfl)) ?_ | fail)
    all_goals exact hno h _ hS.to
  obtain ⟨m, rfl⟩ : ∃ m : Nat, n = m := ⟨n.toNat, by omega⟩
  rw [Int.toNat_natCast] at hok hre
  repeat' (first | ((first | refine pN_lss_s ?_ ?_ | refine pN_gtr_s ?_ ?_) <;> intro hc <;> try (exfalso; omega)) | refine pIf_f ?_ | refine pGd_go (by rfl) ?_ | refine pN_l hS (by first | rfl | assumption) ?_ | (refine pN_nz hS ?_; clear hS; intro a w hS) | (refine pN_bx hS (by rfl) ?_; clear hS; intro a w hS) | refine pN_fn ?_ | refine pN_via (by (intro K; simp (disch := omega) only [go_sem, pN_min, pN_max, w_u32, w_u64, Option.isNone_some, Option.isNone_none]; (try simp only [wrap_u32, wrap_u64]); rfl)) ?_ | fail)
  rename_i x2 _ x4 _ _
  revert a
  intro x5 hS
  have hS : Sat E w (Dec d st :: cel x2 ⟨75, [.pointer (some ⟨d, 0, none⟩)]⟩ :: cel x4 ⟨26, [.int .u32 0]⟩ :: cel x5 ⟨27, [.int .i64 0]⟩ :: M) := hS.to
  obtain ⟨s, hS⟩ := Dec.opn hS
  refine pN_la_at hS [.int .i64 st.k, .int .u32 st.R, .int .u32 st.C] rfl rfl ?_
  refine pDf_fn ?_
  let Z : Pan := ⟨fun ch w => ∃ (e : Int), ch = [{ v := refd e, recovered := false }] ∧ e ≠ 0 ∧ st.direct 0 m = .no e ∧ ∃ (v e0 : Int) (st' : D.S), st'.b = st.b ∧ Sat E w (Dec d st' :: cel x2 ⟨75, [.pointer (some ⟨d, 0, none⟩)]⟩ :: cel x4 ⟨26, [.int .u32 v]⟩ :: cel x5 ⟨27, [.int .i64 e0]⟩ :: M)⟩
  refine ⟨Z, ?_, ?_⟩
  · clear hS
    rintro ch w ⟨e, rfl, hne, hnone, v, e0, st', hb', hS⟩
    refine dE_of call_rcdec_Decoder_Direct_c1 (u2 := .panicking [{ v := refd e, recovered := true }]) (cap := [.pointer (some ⟨x2, 0, none⟩), .pointer (some ⟨x5, 0, none⟩), .pointer (some ⟨x4, 0, none⟩)]) (args := [.agg #[.int .i64 st.k, .int .u32 st.R, .int .u32 st.C]])
      (Q := fun r w => Sat E w (Dec d st :: cel x2 ⟨75, [.pointer (some ⟨d, 0, none⟩)]⟩ :: cel x4 ⟨26, [.int .u32 0]⟩ :: cel x5 ⟨27, [.int .i64 e]⟩ :: M)) rfl ?_ (rcdec_Decoder_Direct_c1.panics (DirC_ref hne hS fun w hS => ?_))
    · clear hS
      rintro _ w hS
      repeat' (first | refine pL_r hS (by rfl) ?_ | fail)
      exact hre e _ h.1 h.2 hnone hS.to
    · rw [hb'] at hS
      exact hS
  · have hS : Sat E w (Dec d st :: cel x2 ⟨75, [.pointer (some ⟨d, 0, none⟩)]⟩ :: cel x4 ⟨26, [.int .u32 0]⟩ :: cel x5 ⟨27, [.int .i64 0]⟩ :: M) := Dec.shut (d := d) (s := s) hS st rfl rfl
    refine ⟨fun i w => ∃ (j : Nat) (t : D.S) (v : Int), i = .int .i64 j ∧ j ≤ m ∧ D.Ok t ∧ t.b = st.b ∧ 0 ≤ v ∧ v < 2 ^ j ∧ t.direct v (m - j) = st.direct 0 m ∧ Sat E w (Dec d t :: cel x2 ⟨75, [.pointer (some ⟨d, 0, none⟩)]⟩ :: cel x4 ⟨26, [.int .u32 v]⟩ :: cel x5 ⟨27, [.int .i64 0]⟩ :: M), fun i _ => m - (RowKit.intOf i).toNat, ⟨0, st, 0, rfl, Nat.zero_le _, ho, rfl, by omega, by simp, rfl, hS⟩, ?_⟩
    clear hS
    rintro _ _ w ⟨j, t, v, rfl, hj, hot, htb, v0, v1, htd, hS⟩
    by_cases hlt : j < m
    · rw [show m - j = (m - (j + 1)) + 1 from by omega, D.S.direct] at htd
      have h32 : (2 : Int) ^ j ≤ 2147483648 := by
        have : (2 : Int) ^ 31 = 2147483648 := by decide
        rw [← this]
        exact R.two_le (by omega)
      have q0 := hot.r0
      have q1 := hot.r1
      have q2 := hot.c0
      have q3 := hot.c1
      have one := hot.one
      have o1 := one.c1
      have hbit : t.bitAt (t.R / 2) = if t.C < t.R / 2 then 0 else 1 := rfl
      have e1 : t.one = if t.C < t.R / 2 then ⟨t.b, t.k, t.R / 2, t.C⟩ else ⟨t.b, t.k, t.R / 2, t.C - t.R / 2⟩ := rfl
      have oR : t.one.R = t.R / 2 := by rw [e1]; split <;> rfl
      have ok : t.one.k = t.k := by rw [e1]; split <;> rfl
      obtain ⟨s, hS⟩ := Dec.opn hS
      repeat' (first | (refine pN_lss_s ?_ ?_ <;> intro hc <;> try (exfalso; omega)) | refine pIf_t ?_ | fail)
      refine ⟨fun w => ∃ t2 : D.S, t.one.widen = some t2 ∧ ¬ t.one.R ≤ t.one.C ∧ Sat E w (Dec d t2 :: cel x2 ⟨75, [.pointer (some ⟨d, 0, none⟩)]⟩ :: cel x4 ⟨26, [.int .u32 (2 * v + t.bitAt (t.R / 2))]⟩ :: cel x5 ⟨27, [.int .i64 0]⟩ :: M), ?_, ?_⟩
      rotate_left 1
      · clear hS
        rintro _ w ⟨t2, ht2, hnle, hS⟩
        rw [if_neg hnle, ht2] at htd
        have ho2 := one.widen (by omega) ht2
        have hb01 := D.bitAt_01 t (t.R / 2)
        repeat' (first | refine pN_via (by (intro K; simp (disch := omega) only [go_sem, pN_min, pN_max, w_u32, w_u64, Option.isNone_some, Option.isNone_none]; (try simp only [wrap_u32, wrap_u64]); rfl)) ?_ | fail)
        refine ⟨⟨j + 1, t2, 2 * v + t.bitAt (t.R / 2), rfl, by omega, ho2.1, ho2.2.trans htb, by omega, by rw [Int.pow_succ]; omega, htd, hS.to⟩, by simp [RowKit.intOf] <;> omega⟩
      repeat' (first | refine pN_l hS (by first | rfl | assumption) ?_ | (refine pN_s hS (by first | exact Nat.le_of_ble_eq_true rfl | assumption) (by rfl) ?_; clear hS; intro w hS; try simp only [List.set_cons_zero, List.set_cons_succ] at hS) | refine pN_via (by (intro K; simp (disch := omega) only [go_sem, pN_min, pN_max, w_u32, w_u64, Option.isNone_some, Option.isNone_none]; (try simp only [wrap_u32, wrap_u64]); rfl)) ?_ | fail)
      refine ⟨fun w => Sat E w (cel d ⟨149, [.slice s.a t.b.length s.c, .int .i64 t.k, .int .u32 t.R, .int .u32 t.one.C]⟩ :: rows cd_uint8 s t.b :: cel x2 ⟨75, [.pointer (some ⟨d, 0, none⟩)]⟩ :: cel x4 ⟨26, [.int .u32 (2 * v + t.bitAt (t.R / 2))]⟩ :: cel x5 ⟨27, [.int .i64 0]⟩ :: M), ?_, ?_⟩
      · by_cases hge : t.C < t.R / 2
        · rw [if_pos hge] at hbit e1
          have e2 : 2 * v + t.bitAt (t.R / 2) = v * 2 := by omega
          rw [e2, e1]
          repeat' (first | (refine pN_geq_s ?_ ?_ <;> intro hc <;> try (exfalso; omega)) | refine pIf_f ?_ | refine pN_l hS (by first | rfl | assumption) ?_ | refine pN_via (by (intro K; simp (disch := omega) only [go_sem, pN_min, pN_max, w_u32, w_u64, Option.isNone_some, Option.isNone_none]; (try simp only [wrap_u32, wrap_u64]); rfl)) ?_ | fail)
          exact hS.to
        · rw [if_neg hge] at hbit e1
          have e2 : 2 * v + t.bitAt (t.R / 2) = v * 2 + 1 := by omega
          rw [e2, e1]
          repeat' (first | refine pN_orl 2 1 (by decide) (by omega) (by omega) (by omega) ?_ | (refine pN_geq_s ?_ ?_ <;> intro hc <;> try (exfalso; omega)) | refine pIf_t ?_ | refine pN_l hS (by first | rfl | assumption) ?_ | (refine pN_s hS (by first | exact Nat.le_of_ble_eq_true rfl | assumption) (by rfl) ?_; clear hS; intro w hS; try simp only [List.set_cons_zero, List.set_cons_succ] at hS) | refine pN_via (by (intro K; simp (disch := omega) only [go_sem, pN_min, pN_max, w_u32, w_u64, Option.isNone_some, Option.isNone_none]; (try simp only [wrap_u32, wrap_u64]); rfl)) ?_ | fail)
          exact hS.to
      clear hS
      intro _ w hS
      skip
      refine ⟨fun w => ¬ t.one.R ≤ t.one.C ∧ Sat E w (cel d ⟨149, [.slice s.a t.b.length s.c, .int .i64 t.k, .int .u32 t.R, .int .u32 t.one.C]⟩ :: rows cd_uint8 s t.b :: cel x2 ⟨75, [.pointer (some ⟨d, 0, none⟩)]⟩ :: cel x4 ⟨26, [.int .u32 (2 * v + t.bitAt (t.R / 2))]⟩ :: cel x5 ⟨27, [.int .i64 0]⟩ :: M), ?_, ?_⟩
      · repeat' (first | refine pN_ifr ?_ | refine pN_pnr ?_ | (refine pN_eql_s ?_ ?_ <;> intro hc <;> try (exfalso; first | omega | exact hc rfl | exact hc (by assumption) | exact absurd hc (by assumption))) | refine pIf_t ?_ | refine pIf_f ?_ | refine pN_l hS (by first | rfl | assumption) ?_ | refine pN_via (by (intro K; simp (disch := omega) only [go_sem, pN_min, pN_max, w_u32, w_u64, Option.isNone_some, Option.isNone_none]; (try simp only [wrap_u32, wrap_u64]); rfl)) ?_ | fail)
        · have hS : Sat E w (Dec d ⟨t.b, t.k, t.R, t.one.C⟩ :: cel x2 ⟨75, [.pointer (some ⟨d, 0, none⟩)]⟩ :: cel x4 ⟨26, [.int .u32 (2 * v + t.bitAt (t.R / 2))]⟩ :: cel x5 ⟨27, [.int .i64 0]⟩ :: M) := Dec.shut (d := d) (s := s) hS ⟨t.b, t.k, t.R, t.one.C⟩ rfl rfl
          refine ⟨2, rfl, by decide, ?_, 2 * v + t.bitAt (t.R / 2), 0, ⟨t.b, t.k, t.R, t.one.C⟩, htb, hS⟩
          rw [← htd, if_pos (by omega)]
        · exact ⟨by omega, hS.to⟩
      clear hS
      rintro _ w ⟨hnle, hS⟩
      repeat' (first | refine pN_l hS (by first | rfl | assumption) ?_ | (refine pN_s hS (by first | exact Nat.le_of_ble_eq_true rfl | assumption) (by rfl) ?_; clear hS; intro w hS; try simp only [List.set_cons_zero, List.set_cons_succ] at hS) | refine pN_via (by (intro K; simp (disch := omega) only [go_sem, pN_min, pN_max, w_u32, w_u64, Option.isNone_some, Option.isNone_none]; (try simp only [wrap_u32, wrap_u64]); rfl)) ?_ | fail)
      have e3 : (⟨t.b, t.k, t.R / 2, t.one.C⟩ : D.S) = t.one := by rw [e1]; split <;> rfl
      have hS : Sat E w (Dec d ⟨t.b, t.k, t.R / 2, t.one.C⟩ :: cel x2 ⟨75, [.pointer (some ⟨d, 0, none⟩)]⟩ :: cel x4 ⟨26, [.int .u32 (2 * v + t.bitAt (t.R / 2))]⟩ :: cel x5 ⟨27, [.int .i64 0]⟩ :: M) := Dec.shut (d := d) (s := s) hS ⟨t.b, t.k, t.R / 2, t.one.C⟩ rfl rfl
      rw [e3] at hS
      have ob := one.b
      have o0 := one.r0
      have oc := one.c0
      refine pc_rcdec_Decoder_widen (Dwiden_ok hS one.k (by rw [ob, htb]; exact hb) (by omega) oc (by omega) (fun t2 w ht2 hS => ?_) fun w hnone hS => ?_)
      · exact ⟨t2, ht2, hnle, hS⟩
      · refine ⟨1, rfl, by decide, ?_, 2 * v + t.bitAt (t.R / 2), 0, t.one, ob.trans htb, hS⟩
        rw [← htd, if_neg hnle, hnone]
    · obtain rfl : j = m := by omega
      rw [Nat.sub_self, D.S.direct] at htd
      repeat' (first | (refine pN_lss_s ?_ ?_ <;> intro hc <;> try (exfalso; omega)) | refine pIf_f ?_ | refine pN_l hS (by first | rfl | assumption) ?_ | (refine pN_s hS (by first | exact Nat.le_of_ble_eq_true rfl | assumption) (by rfl) ?_; clear hS; intro w hS; try simp only [List.set_cons_zero, List.set_cons_succ] at hS) | fail)
      have hS : Sat E _ (Dec d t :: cel x2 ⟨75, [.pointer (some ⟨d, 0, none⟩)]⟩ :: cel x4 ⟨26, [.int .u32 v]⟩ :: cel x5 ⟨27, [.int .i64 0]⟩ :: M) := hS.to
      refine dE_of call_rcdec_Decoder_Direct_c1 (u2 := .returning) (cap := [.pointer (some ⟨x2, 0, none⟩), .pointer (some ⟨x5, 0, none⟩), .pointer (some ⟨x4, 0, none⟩)]) (args := [.agg #[.int .i64 st.k, .int .u32 st.R, .int .u32 st.C]])
        (Q := fun r w => Sat E w (Dec d t :: cel x2 ⟨75, [.pointer (some ⟨d, 0, none⟩)]⟩ :: cel x4 ⟨26, [.int .u32 v]⟩ :: cel x5 ⟨27, [.int .i64 0]⟩ :: M)) rfl ?_ (rcdec_Decoder_Direct_c1.idles (DirC_idle hS fun w hS => hS))
      clear hS
      rintro _ w hS
      repeat' (first | refine pL_r hS (by rfl) ?_ | fail)
      exact hok t v _ h.1 h.2 htd.symm hS.to

theorem Used_ok (hS : Sat E w (Dec d st :: M)) (hQ : ∀ w, Sat E w (Dec d st :: M) → Q (.int .i64 st.k) w) : Calls Try.prog 51 #[.pointer (some ⟨d, 0, none⟩)] w (retP Q) := by
  refine rcdec_Decoder_Used.calls ?_
  unfold rcdec_Decoder_Used.F
  obtain ⟨s, hS⟩ := Dec.opn hS
  repeat' (first | refine pN_l hS (by first | rfl | assumption) ?_ | refine pN_via (by (intro K; simp (disch := omega) only [go_sem, pN_min, pN_max, w_u32, w_u64, Option.isNone_some, Option.isNone_none]; (try simp only [wrap_u32, wrap_u64]); rfl)) ?_ | fail)
  exact hQ _ (Dec.shut (d := d) (s := s) hS st rfl rfl)

theorem Done_ok (hS : Sat E w (Dec d st :: M)) (hQ : ∀ w, Sat E w (Dec d st :: M) → Q (.bool (decide (st.k = st.b.length ∧ st.C = 0))) w) : Calls Try.prog 53 #[.pointer (some ⟨d, 0, none⟩)] w (retP Q) := by
  refine rcdec_Decoder_Done.calls ?_
  unfold rcdec_Decoder_Done.F
  obtain ⟨s, hS⟩ := Dec.opn hS
  have hQ := fun w h => hQ w (Dec.shut (d := d) (s := s) (L := cel d ⟨149, [.slice s.a st.b.length s.c, .int .i64 st.k, .int .u32 st.R, .int .u32 st.C]⟩ :: rows cd_uint8 s st.b :: M) h st rfl rfl)
  by_cases h1 : st.k = st.b.length
  · by_cases h2 : st.C = 0
    · rw [decide_eq_true ⟨h1, h2⟩] at hQ
      repeat' (first | (refine pA_eql_s ?_ ?_ <;> intro hc <;> try (exfalso; first | omega | exact hc rfl | exact hc (by assumption) | exact absurd hc (by assumption))) | refine gA_go (by rfl) ?_ | refine pL_l hS (by first | rfl | assumption) ?_ | (refine pDr_go hS ?_; clear hS; intro w hS) | refine pA_via (by (intro K; simp (disch := omega) only [go_sem, pN_min, pN_max, w_u32, w_u64, Option.isNone_some, Option.isNone_none]; (try simp only [wrap_u32, wrap_u64]); rfl)) ?_ | fail)
      exact hQ _ hS
    · rw [decide_eq_false (fun h => h2 h.2)] at hQ
      repeat' (first | (refine pA_eql_s ?_ ?_ <;> intro hc <;> try (exfalso; first | omega | exact hc rfl | exact hc (by assumption) | exact absurd hc (by assumption))) | refine gA_go (by rfl) ?_ | refine pL_l hS (by first | rfl | assumption) ?_ | (refine pDr_go hS ?_; clear hS; intro w hS) | refine pA_via (by (intro K; simp (disch := omega) only [go_sem, pN_min, pN_max, w_u32, w_u64, Option.isNone_some, Option.isNone_none]; (try simp only [wrap_u32, wrap_u64]); rfl)) ?_ | fail)
      exact hQ _ hS
  · rw [decide_eq_false (fun h => h1 h.1)] at hQ
    repeat' (first | (refine pA_eql_s ?_ ?_ <;> intro hc <;> try (exfalso; first | omega | exact hc rfl | exact hc (by assumption) | exact absurd hc (by assumption))) | refine gA_no (by rfl) ?_ | refine pL_l hS (by first | rfl | assumption) ?_ | (refine pDr_go hS ?_; clear hS; intro w hS) | refine pA_via (by (intro K; simp (disch := omega) only [go_sem, pN_min, pN_max, w_u32, w_u64, Option.isNone_some, Option.isNone_none]; (try simp only [wrap_u32, wrap_u64]); rfl)) ?_ | fail)
    exact hQ _ hS

theorem pN_bdd [Pan] {K : Value → World → Prop} {a : Option Addr} {n c : Nat} {x y z : Int} (hk : K (.agg #[.slice a n c, .int .i64 x, .int .u32 y, .int .u32 z]) w) : pN Try.prog (oBuild 149 [(0, .slice a n c), (1, .agg #[.int .i64 x, .int .u32 y, .int .u32 z])]) w K := by
  have : (oBuild 149 [(0, .slice a n c), (1, .agg #[.int .i64 x, .int .u32 y, .int .u32 z])]).run Try.prog w = .ok (.value (.agg #[.slice a n c, .int .i64 x, .int .u32 y, .int .u32 z])) w := by kernel_rfl
  rw [pN_def, this, rN_value]; exact hk

theorem DNew_ok {s0 : Sl} {l : List UInt8} (hS : Sat E w M) [hr : Rds cd_uint8 M s0 l] (hb : l.length ≤ 225000000000000)
    (hok : ∀ t d w, D.start l = .ok t () → Sat E w (Dec d t :: M) → Q (.tuple #[.pointer (some ⟨d, 0, none⟩), .int .i64 0]) w)
    (hre : ∀ e w, D.start l = .no e → Sat E w M → Q (.tuple #[.pointer none, .int .i64 e]) w) :
    Calls Try.prog 42 #[.slice s0.a l.length s0.c] w (retP Q) := by
  refine rcdec_New.calls ?_
  unfold rcdec_New.F
  by_cases h5 : l.length < 5
  · repeat' (first | (refine pN_lss_s ?_ ?_ <;> intro hc <;> try (exfalso; omega)) | refine pIf_t ?_ | refine pN_via (by (intro K; simp (disch := omega) only [go_sem, pN_min, pN_max, w_u32, w_u64, Option.isNone_some, Option.isNone_none]; (try simp only [wrap_u32, wrap_u64]); rfl)) ?_ | fail)
    exact hre 1 _ (by rw [D.start, if_pos h5]) hS
  obtain ⟨b0, hb0⟩ : ∃ x, l[0]? = some x := ⟨l[0]'(by omega), by simp⟩
  repeat' (first | (refine pN_appw0 hS rfl (by omega) ?_; clear hS; intro s w hS) | (refine pN_lss_s ?_ ?_ <;> intro hc <;> try (exfalso; omega)) | refine pIf_f ?_ | refine pN_via (by (intro K; simp (disch := omega) only [go_sem, pN_min, pN_max, w_u32, w_u64, Option.isNone_some, Option.isNone_none]; (try simp only [wrap_u32, wrap_u64]); rfl)) ?_ | fail)
  refine pN_bdd ?_
  repeat' (first | (refine pN_bx hS (by rfl) ?_; clear hS; intro a w hS) | fail)
  revert a
  intro bd hS
  refine pN_sl2 hS 1 5 rfl rfl rfl (by omega) (by omega) fun s4 hp => ?_
  have hr4 : ∀ (L : List HA) [Rds cd_uint8 L s0 l], Rds cd_uint8 L s4 ((l.drop 1).take (5 - 1)) := fun L h => hp.rd L h
  have hl4 : ((l.drop 1).take (5 - 1)).length = 4 := by rw [List.length_take, List.length_drop]; omega
  repeat' (first | refine pN_via (by (intro K; simp (disch := omega) only [go_sem, pN_min, pN_max, w_u32, w_u64, Option.isNone_some, Option.isNone_none]; (try simp only [wrap_u32, wrap_u64]); rfl)) ?_ | fail)
  refine ⟨fun v w => ∃ i : Nat, v = .int .i64 i ∧ i ≤ 4 ∧ Sat E w (cel bd ⟨149, [.slice s.a l.length s.c, .int .i64 5, .int .u32 4294967295, .int .u32 (D.front l i)]⟩ :: rows cd_uint8 s l :: M), fun v _ => 4 - (RowKit.intOf v).toNat, ⟨0, rfl, by omega, by rw [D.front_0]; exact hS⟩, ?_⟩
  clear hS
  rintro _ _ w ⟨i, rfl, hi, hS⟩
  by_cases hlt : i < 4
  · obtain ⟨x, hx0⟩ : ∃ x, l[i + 1]? = some x := ⟨l[i + 1]'(by omega), by simp⟩
    have hx : ((l.drop 1).take (5 - 1))[i]? = some x := by rw [List.getElem?_take, if_pos (by omega), List.getElem?_drop, Nat.add_comm]; exact hx0
    have hx2 := x.toNat_lt
    have hfs := D.front_succ l i hx0
    have hf3 := D.front_lt l i (by omega)
    repeat' (first | refine pN_orl 256 8 (by decide) (by omega) (by omega) (by omega) ?_ | (refine pN_lss_s ?_ ?_ <;> intro hc <;> try (exfalso; omega)) | refine pIf_t ?_ | refine pN_ofb ?_ | refine pN_l hS (by first | rfl | assumption) ?_ | refine pN_ld1 ha hS ?_ | (refine pN_s hS (by first | exact Nat.le_of_ble_eq_true rfl | assumption) (by rfl) ?_; clear hS; intro w hS; try simp only [List.set_cons_zero, List.set_cons_succ] at hS) | refine pN_ixk hS _ (by first | rfl | (exact (Int.toNat_of_nonneg (by omega)).symm)) (by first | rfl | omega | simpa only [go_sem] using True.intro | (simp only [go_sem]; omega)) (by assumption) fun a ha hel => ?_ | refine pN_via (by (intro K; simp (disch := omega) only [go_sem, pN_min, pN_max, w_u32, w_u64, Option.isNone_some, Option.isNone_none]; (try simp only [wrap_u32, wrap_u64]); rfl)) ?_ | fail)
    rw [← hfs] at hS
    exact ⟨⟨i + 1, rfl, by omega, hS⟩, by simp [RowKit.intOf] <;> omega⟩
  · obtain rfl : i = 4 := by omega
    have hf4 := D.front_bd l 4 (by omega)
    have h4 : (256 : Int) ^ 4 = 4294967296 := by decide
    have hbe : b0 = 0 ↔ (b0.toNat : Int) = ((0 : UInt8).toNat : Int) := ⟨fun e => by rw [e], fun e => UInt8.toNat_inj.1 (by omega)⟩
    have hst : D.start l = if b0 ≠ 0 ∨ D.front l 4 = 4294967295 then .no 2 else .ok ⟨l, 5, 4294967295, D.front l 4⟩ () := by
      rw [D.start, if_neg h5, hb0]; simp
    repeat' (first | (refine pN_lss_s ?_ ?_ <;> intro hc <;> try (exfalso; omega)) | ((first | refine pA_eql_s ?_ ?_ | refine pA_neq_s ?_ ?_) <;> intro hc <;> try (exfalso; first | omega | exact hc rfl | exact hc (by assumption) | exact absurd hc (by assumption))) | refine pIf_t ?_ | refine pIf_f ?_ | refine gA_go (by rfl) ?_ | refine gA_no (by rfl) ?_ | refine pL_l hS (by first | rfl | assumption) ?_ | refine pL_ld1 ha hS ?_ | (refine pDr_go hS ?_; clear hS; intro w hS) | refine pA_ixk hS _ (by first | rfl | (exact (Int.toNat_of_nonneg (by omega)).symm)) (by first | rfl | omega | simpa only [go_sem] using True.intro | (simp only [go_sem]; omega)) (by assumption) fun a ha hel => ?_ | refine pA_via (by (intro K; simp (disch := omega) only [go_sem, pN_min, pN_max, w_u32, w_u64, Option.isNone_some, Option.isNone_none]; (try simp only [wrap_u32, wrap_u64]); rfl)) ?_ | fail)
    · exact hre 2 _ (by rw [hst, if_pos (.inr hc)]) hS.to
    · have hS := Dec.shut (d := bd) (s := s) hS ⟨l, 5, 4294967295, D.front l 4⟩ rfl rfl
      refine hok ⟨l, 5, 4294967295, D.front l 4⟩ _ _ ?_ hS
      rw [hst, if_neg]
      rintro (h | h)
      · exact h (hbe.2 (by assumption))
      · exact hc h
    · exact hre 2 _ (by rw [hst, if_pos (.inl fun e => hc (hbe.1 e))]) hS.to
end

end Go.Proofs.Ytoejaggkedlfmaa
