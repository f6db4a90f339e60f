/-
  Texts of one proof, one behind the other: Ref8, DecQ, RcdecExact, DecRun, DecTrip, DecFol, TGet, TBack, TreeGet, TreeBack, TreeBackW.
-/
import Derived.Test.YtoejaggkedlfmaaMg6
namespace Go.Proofs.Ytoejaggkedlfmaa
open Go
set_option linter.unusedSimpArgs false
set_option linter.unnecessarySimpa false
set_option linter.unusedSectionVars false
set_option linter.unusedVariables false
attribute [local irreducible] oMv oV oU oCall oCallV oBi oBin oUn oLoad oStore oNil oFld oField oIdx oIndex oPick oAlloc oBox oBuild oBs oConv oMk oSl oExt oFn oIface oMap oLook oMapUp oRange oNext oAssert oPanic oRes pN pA pL pDr pIf gA pGd

/-- The document's decoder in block d. -/
def RDec (d : Nat) (st : D.S) : HA := fun h => ∃ s : Sl, Sats [cel d ⟨151, [.slice s.a st.b.length s.c, .int .i64 st.k, .int .i64 st.R, .int .i64 st.C]⟩, rows cd_uint8 s st.b] h

section
variable {E w : World} {M : List HA} {Q : Value → World → Prop} {d : Nat} {st : D.S}

theorem RDec.opn (hS : Sat E w (RDec d st :: M)) : ∃ s : Sl, Sat E w (cel d ⟨151, [.slice s.a st.b.length s.c, .int .i64 st.k, .int .i64 st.R, .int .i64 st.C]⟩ :: rows cd_uint8 s st.b :: M) := by
  obtain ⟨s, hS⟩ := hS.ex
  exact ⟨s, hS.open_ (M := [_, _]) fun _ h => h⟩
theorem RDec.shut {s : Sl} {L N : List HA} {o : Ob} {l : List UInt8} (hS : Sat E w L) (st : D.S) [h1 : Fnd (cel d) L o N] [h2 : Fnd (rows cd_uint8 s) N l M] (ho : o = ⟨151, [.slice s.a l.length s.c, .int .i64 st.k, .int .i64 st.R, .int .i64 st.C]⟩) (hl : l = st.b) : Sat E w (RDec d st :: M) := by
  subst hl
  subst ho
  exact Sat.shut (M := [_, _]) (hS.fd2 (cel d) (rows cd_uint8 s)) fun _ h => ⟨s, h⟩

/-- Its cells. -/
abbrev rdC (s : Sl) (st : D.S) : Ob := ⟨151, [.slice s.a st.b.length s.c, .int .i64 st.k, .int .i64 st.R, .int .i64 st.C]⟩

theorem R8Fork_ok {s : Sl} (hS : Sat E w (cel d (rdC s st) :: M)) (hQ : ∀ f w, Sat E w (cel f (rdC s st) :: cel d (rdC s st) :: M) → Q (.pointer (some ⟨f, 0, none⟩)) w) :
    Calls Try.prog 92 #[.pointer (some ⟨d, 0, none⟩)] w (retP Q) := by
  refine pithref08_Decoder_Fork.calls ?_
  unfold pithref08_Decoder_Fork.F
  repeat' (first | refine pN_la hS (by rfl) ?_ | (refine pN_sa hS (by rfl) (by rfl) (by rfl) ?_; clear hS; intro w hS; try dsimp only at hS) | (refine pN_nz hS ?_; clear hS; intro a w hS) | refine pN_via (by (intro K; simp (disch := omega) only [go_sem, pN_min, pN_max, w_u32, w_u64, Option.isNone_some, Option.isNone_none]; (try simp only [wrap_u32, wrap_u64]); rfl)) ?_ | fail)
  exact hQ _ _ hS.to

theorem R8widen_ok {s : Sl} (hS : Sat E w (cel d (rdC s st) :: rows cd_uint8 s st.b :: M)) (hk : st.k ≤ st.b.length) (hb : st.b.length ≤ 140737488355328) (r0 : 0 < st.R) (c0 : 0 ≤ st.C) (c1 : st.C < st.R)
    (hQ : ∀ t w, st.widen = some t → Sat E w (cel d (rdC s t) :: rows cd_uint8 s st.b :: M) → Q (.bool true) w) (hZ : ∀ w, st.widen = none → Sat E w (cel d (rdC s st) :: rows cd_uint8 s st.b :: M) → Q (.bool false) w) :
    Calls Try.prog 93 #[.pointer (some ⟨d, 0, none⟩)] w (retP Q) := by
  refine pithref08_Decoder_widen.calls ?_
  unfold pithref08_Decoder_widen.F
  by_cases h1 : 16777216 ≤ st.R
  · repeat' (first | (refine pN_geq_s ?_ ?_ <;> intro hc <;> try (exfalso; omega)) | refine pIf_t ?_ | refine pN_l hS (by first | rfl | assumption) ?_ | refine pN_via (by (intro K; simp (disch := omega) only [go_sem, pN_min, pN_max, w_u32, w_u64, Option.isNone_some, Option.isNone_none]; (try simp only [wrap_u32, wrap_u64]); rfl)) ?_ | fail)
    exact hQ st _ (by rw [D.S.widen, if_pos h1]) hS
  · by_cases h2 : st.k = st.b.length
    · repeat' (first | (refine pN_geq_s ?_ ?_ <;> intro hc <;> try (exfalso; omega)) | (refine pA_eql_s ?_ ?_ <;> intro hc <;> try (exfalso; first | omega | exact hc rfl | exact hc (by assumption) | exact absurd hc (by assumption))) | refine pIf_t ?_ | refine pIf_f ?_ | refine pN_l hS (by first | rfl | assumption) ?_ | refine pL_l hS (by first | rfl | assumption) ?_ | (refine pDr_go hS ?_; clear hS; intro w hS) | refine pN_via (by (intro K; simp (disch := omega) only [go_sem, pN_min, pN_max, w_u32, w_u64, Option.isNone_some, Option.isNone_none]; (try simp only [wrap_u32, wrap_u64]); rfl)) ?_ | refine pA_via (by (intro K; simp (disch := omega) only [go_sem, pN_min, pN_max, w_u32, w_u64, Option.isNone_some, Option.isNone_none]; (try simp only [wrap_u32, wrap_u64]); rfl)) ?_ | fail)
      refine hZ _ ?_ hS
      rw [D.S.widen, if_neg h1, List.getElem?_eq_none (by omega)]
    · obtain ⟨x, hx⟩ : ∃ x, st.b[st.k]? = some x := ⟨st.b[st.k]'(by omega), by simp⟩
      have hx2 := x.toNat_lt
      repeat' (first | (refine pN_geq_s ?_ ?_ <;> intro hc <;> try (exfalso; omega)) | (refine pA_eql_s ?_ ?_ <;> intro hc <;> try (exfalso; first | omega | exact hc rfl | exact hc (by assumption) | exact absurd hc (by assumption))) | refine pIf_f ?_ | refine pL_ofb ?_ | refine pN_l hS (by first | rfl | assumption) ?_ | refine pL_l hS (by first | rfl | assumption) ?_ | refine pL_ld1 ha hS ?_ | (refine pN_s hS (by first | exact Nat.le_of_ble_eq_true rfl | assumption) (by rfl) ?_; clear hS; intro w hS; try simp only [List.set_cons_zero, List.set_cons_succ] at hS) | (refine pDr_go hS ?_; clear hS; intro w hS) | refine ⟨trivial, ?_⟩ | refine pA_ixk hS _ (by first | rfl | (exact (Int.toNat_of_nonneg (by omega)).symm)) (by first | rfl | omega | simpa only [go_sem] using True.intro | (simp only [go_sem]; omega)) (by assumption) fun a ha hel => ?_ | refine pN_via (by (intro K; simp (disch := omega) only [go_sem, pN_min, pN_max, w_u32, w_u64, Option.isNone_some, Option.isNone_none]; (try simp only [wrap_u32, wrap_u64]); rfl)) ?_ | refine pA_via (by (intro K; simp (disch := omega) only [go_sem, pN_min, pN_max, w_u32, w_u64, Option.isNone_some, Option.isNone_none]; (try simp only [wrap_u32, wrap_u64]); rfl)) ?_ | fail)
      rw [Int.mul_comm 256, Int.mul_comm 256] at hS
      exact hQ ⟨st.b, st.k + 1, st.R * 256, st.C * 256 + x.toNat⟩ _ (by rw [D.S.widen, if_neg h1, hx]) hS

theorem R8Bit_ok {p : Nat} {l : List Int} (hS : Sat E w (RDec d st :: RSet p l :: M)) (ho : D.Ok st) (hf : B.Fine l) (hb : st.b.length ≤ 140737488355328) (i : Int)
    (hno : ¬ (0 ≤ i ∧ i < l.length) → ∀ w, Sat E w (RDec d st :: RSet p l :: M) → Q (.tuple #[.int .i64 0, .int .i64 7]) w)
    (hok : ∀ t v w, 0 ≤ i → i < l.length → st.bit (B.bound st.R (l.getD i.toNat 0)) = .ok t v → Sat E w (RDec d t :: RSet p (l.set i.toNat (B.next (l.getD i.toNat 0) v)) :: M) → Q (.tuple #[.int .i64 v, .int .i64 0]) w)
    (hre : ∀ e w, 0 ≤ i → i < l.length → st.bit (B.bound st.R (l.getD i.toNat 0)) = .no e → Sat E w (RDec d st :: RSet p l :: M) → Q (.tuple #[.int .i64 0, .int .i64 e]) w) :
    Calls Try.prog 50 #[.pointer (some ⟨d, 0, none⟩), .pointer (some ⟨p, 0, none⟩), .int .i64 i] w (retP Q) := by
  refine pithref08_Decoder_Bit.calls ?_
  unfold pithref08_Decoder_Bit.F
  refine pc_pithref06_Set_At (RAt_ok (hS.fd (RSet p)) i fun w hS => ?_)
  by_cases h : 0 ≤ i ∧ i < l.length
  rotate_left 1
  · simp only [if_neg h]
    repeat' (first | (refine pN_neq_s ?_ ?_ <;> intro hc <;> try (exfalso; first | omega | exact hc rfl | exact hc (by assumption) | exact absurd hc (by assumption))) | refine pIf_t ?_ | refine pN_via (by (intro K; simp (disch := omega) only [go_sem, pN_min, pN_max, w_u32, w_u64, Option.isNone_some, Option.isNone_none]; (try simp only [wrap_u32, wrap_u64]); rfl)) ?_ | fail)
    exact hno h _ hS.to
  simp only [if_pos h]
  obtain ⟨x, hx⟩ : ∃ x, l[i.toNat]? = some x := ⟨l[i.toNat]'(by omega), by simp⟩
  have hxe : l.getD i.toNat 0 = x := by rw [List.getD_eq_getElem?_getD, hx]; rfl
  rw [hxe] at hok hre ⊢
  have hxf := hf.get hx
  have hmid := D.bound_mid ho.r0 hxf.1 hxf.2
  have q1 := ho.r0
  have q2 := ho.r1
  have q3 := ho.c0
  have q4 := ho.c1
  have hco := ho.cut hmid.1 hmid.2
  have hc0 := B.bound_pos (rng := st.R) (p := x) q1 hxf.1
  have hc1 := B.bound_lt (rng := st.R) (p := x) q1
  have hv : st.bitAt (B.bound st.R x) = if st.C < B.bound st.R x then 0 else 1 := rfl
  have e1 : st.cut (B.bound st.R x) = if st.C < B.bound st.R x then ⟨st.b, st.k, B.bound st.R x, st.C⟩ else ⟨st.b, st.k, st.R - B.bound st.R x, st.C - B.bound st.R x⟩ := rfl
  obtain ⟨s, hS⟩ := RDec.opn (hS.fd (RDec d))
  repeat' (first | (refine pN_neq_s ?_ ?_ <;> intro hc <;> try (exfalso; first | omega | exact hc rfl | exact hc (by assumption) | exact absurd hc (by assumption))) | refine pIf_f ?_ | refine pN_l hS (by first | rfl | assumption) ?_ | refine pN_via (by (intro K; simp (disch := omega) only [go_sem, pN_min, pN_max, w_u32, w_u64, Option.isNone_some, Option.isNone_none]; (try simp only [wrap_u32, wrap_u64]); rfl)) ?_ | fail)
  refine pc_pithref06_Bound (RBound_ok st.R x (by omega) (by omega) ?_)
  repeat' (first | (refine pc_pithref08_Decoder_Fork (R8Fork_ok hS ?_); clear hS; intro f w hS) | refine pN_via (by (intro K; simp (disch := omega) only [go_sem, pN_min, pN_max, w_u32, w_u64, Option.isNone_some, Option.isNone_none]; (try simp only [wrap_u32, wrap_u64]); rfl)) ?_ | fail)
  refine ⟨fun v w => v = .int .i64 (st.bitAt (B.bound st.R x)) ∧ Sat E w (cel f (rdC s (st.cut (B.bound st.R x))) :: rows cd_uint8 s st.b :: cel d (rdC s st) :: RSet p l :: M), ?_, ?_⟩
  · by_cases hlt : st.C < B.bound st.R x
    · rw [if_pos hlt] at hv e1
      rw [hv, e1]
      repeat' (first | (refine pN_lss_s ?_ ?_ <;> intro hc <;> try (exfalso; omega)) | refine pIf_t ?_ | refine pN_l hS (by first | rfl | assumption) ?_ | (refine pN_s hS (by first | exact Nat.le_of_ble_eq_true rfl | assumption) (by rfl) ?_; clear hS; intro w hS; try simp only [List.set_cons_zero, List.set_cons_succ] at hS) | refine pN_via (by (intro K; simp (disch := omega) only [go_sem, pN_min, pN_max, w_u32, w_u64, Option.isNone_some, Option.isNone_none]; (try simp only [wrap_u32, wrap_u64]); rfl)) ?_ | fail)
      exact ⟨rfl, hS.fd2 (cel f) (rows cd_uint8 s)⟩
    · rw [if_neg hlt] at hv e1
      rw [hv, e1]
      repeat' (first | (refine pN_lss_s ?_ ?_ <;> intro hc <;> try (exfalso; omega)) | refine pIf_f ?_ | refine pN_l hS (by first | rfl | assumption) ?_ | (refine pN_s hS (by first | exact Nat.le_of_ble_eq_true rfl | assumption) (by rfl) ?_; clear hS; intro w hS; try simp only [List.set_cons_zero, List.set_cons_succ] at hS) | refine pN_via (by (intro K; simp (disch := omega) only [go_sem, pN_min, pN_max, w_u32, w_u64, Option.isNone_some, Option.isNone_none]; (try simp only [wrap_u32, wrap_u64]); rfl)) ?_ | fail)
      exact ⟨rfl, hS.fd2 (cel f) (rows cd_uint8 s)⟩
  clear hS
  rintro _ _ w ⟨rfl, hS⟩
  have hcb := hco.b
  have hcr := hco.r0
  have hS : Sat E w (cel f (rdC s (st.cut (B.bound st.R x))) :: rows cd_uint8 s (st.cut (B.bound st.R x)).b :: cel d (rdC s st) :: RSet p l :: M) := by rw [hcb]; exact hS
  refine pc_pithref08_Decoder_widen (R8widen_ok hS hco.k (by rw [hcb]; exact hb) (by omega) hco.c0 hco.c1 (fun t w ht hS => ?_) fun w hnone hS => ?_)
  · have htb := (D.widen_b ht).trans hcb
    repeat' (first | (refine pc_pithref06_Set_Turn (RTurn_ok (hS.fd (RSet p)) i _ ?_); clear hS; intro w hS) | refine pIf_f ?_ | refine pN_la hS (by rfl) ?_ | (refine pN_sa hS (by rfl) (by rfl) (by rfl) ?_; clear hS; intro w hS; try dsimp only at hS) | refine pN_via (by (intro K; simp (disch := omega) only [go_sem, pN_min, pN_max, w_u32, w_u64, Option.isNone_some, Option.isNone_none]; (try simp only [wrap_u32, wrap_u64]); rfl)) ?_ | fail)
    simp only [if_pos h, hxe] at hS
    refine hok t _ _ h.1 h.2 (by rw [D.S.bit, ht]) ?_
    have hS : Sat E w (cel d (rdC s t) :: rows cd_uint8 s t.b :: RSet p (l.set i.toNat (B.next x (st.bitAt (B.bound st.R x)))) :: M) := by
      rw [htb, ← hcb]
      exact (hS.fd2 (cel d) (rows cd_uint8 s)).to
    exact RDec.shut (d := d) (s := s) hS t rfl rfl
  · repeat' (first | refine pIf_t ?_ | refine pN_via (by (intro K; simp (disch := omega) only [go_sem, pN_min, pN_max, w_u32, w_u64, Option.isNone_some, Option.isNone_none]; (try simp only [wrap_u32, wrap_u64]); rfl)) ?_ | fail)
    have hS : Sat E w (cel d (rdC s st) :: rows cd_uint8 s st.b :: RSet p l :: M) := by
      rw [← hcb]
      exact (hS.fd2 (cel d) (rows cd_uint8 s)).to
    exact hre 1 _ h.1 h.2 (by rw [D.S.bit, hnone]) (RDec.shut (d := d) (s := s) hS st rfl rfl)

theorem R8Used_ok (hS : Sat E w (RDec d st :: M)) (hQ : ∀ w, Sat E w (RDec d st :: M) → Q (.int .i64 st.k) w) : Calls Try.prog 52 #[.pointer (some ⟨d, 0, none⟩)] w (retP Q) := by
  refine pithref08_Decoder_Used.calls ?_
  unfold pithref08_Decoder_Used.F
  obtain ⟨s, hS⟩ := RDec.opn hS
  repeat' (first | refine pN_l hS (by first | rfl | assumption) ?_ | refine pN_via (by (intro K; simp (disch := omega) only [go_sem, pN_min, pN_max, w_u32, w_u64, Option.isNone_some, Option.isNone_none]; (try simp only [wrap_u32, wrap_u64]); rfl)) ?_ | fail)
  exact hQ _ (RDec.shut (d := d) (s := s) hS st rfl rfl)

theorem R8Done_ok (hS : Sat E w (RDec d st :: M)) (hQ : ∀ w, Sat E w (RDec d st :: M) → Q (.bool (decide (st.k = st.b.length ∧ st.C = 0))) w) : Calls Try.prog 54 #[.pointer (some ⟨d, 0, none⟩)] w (retP Q) := by
  refine pithref08_Decoder_Done.calls ?_
  unfold pithref08_Decoder_Done.F
  obtain ⟨s, hS⟩ := RDec.opn hS
  have hQ := fun w h => hQ w (RDec.shut (d := d) (s := s) (L := cel d (rdC s st) :: rows cd_uint8 s st.b :: M) h st rfl rfl)
  by_cases h1 : st.k = st.b.length
  · by_cases h2 : st.C = 0
    · rw [decide_eq_true ⟨h1, h2⟩] at hQ
      repeat' (first | (refine pA_eql_s ?_ ?_ <;> intro hc <;> try (exfalso; first | omega | exact hc rfl | exact hc (by assumption) | exact absurd hc (by assumption))) | refine gA_go (by rfl) ?_ | refine pL_l hS (by first | rfl | assumption) ?_ | (refine pDr_go hS ?_; clear hS; intro w hS) | refine pA_via (by (intro K; simp (disch := omega) only [go_sem, pN_min, pN_max, w_u32, w_u64, Option.isNone_some, Option.isNone_none]; (try simp only [wrap_u32, wrap_u64]); rfl)) ?_ | fail)
      exact hQ _ hS
    · rw [decide_eq_false (fun h => h2 h.2)] at hQ
      repeat' (first | (refine pA_eql_s ?_ ?_ <;> intro hc <;> try (exfalso; first | omega | exact hc rfl | exact hc (by assumption) | exact absurd hc (by assumption))) | refine gA_go (by rfl) ?_ | refine pL_l hS (by first | rfl | assumption) ?_ | (refine pDr_go hS ?_; clear hS; intro w hS) | refine pA_via (by (intro K; simp (disch := omega) only [go_sem, pN_min, pN_max, w_u32, w_u64, Option.isNone_some, Option.isNone_none]; (try simp only [wrap_u32, wrap_u64]); rfl)) ?_ | fail)
      exact hQ _ hS
  · rw [decide_eq_false (fun h => h1 h.1)] at hQ
    repeat' (first | (refine pA_eql_s ?_ ?_ <;> intro hc <;> try (exfalso; first | omega | exact hc rfl | exact hc (by assumption) | exact absurd hc (by assumption))) | refine gA_no (by rfl) ?_ | refine pL_l hS (by first | rfl | assumption) ?_ | (refine pDr_go hS ?_; clear hS; intro w hS) | refine pA_via (by (intro K; simp (disch := omega) only [go_sem, pN_min, pN_max, w_u32, w_u64, Option.isNone_some, Option.isNone_none]; (try simp only [wrap_u32, wrap_u64]); rfl)) ?_ | fail)
    exact hQ _ hS

set_option maxHeartbeats 2000000 in
theorem R8Direct_ok (hS : Sat E w (RDec d st :: M)) (ho : D.Ok st) (hb : st.b.length ≤ 140737488355328) (n : Int)
    (hno : ¬ (0 ≤ n ∧ n ≤ 32) → ∀ w, Sat E w (RDec d st :: M) → Q (.tuple #[.int .u32 0, .int .i64 7]) w)
    (hok : ∀ t v w, 0 ≤ n → n ≤ 32 → st.direct 0 n.toNat = .ok t v → Sat E w (RDec d t :: M) → Q (.tuple #[.int .u32 v, .int .i64 0]) w)
    (hre : ∀ e w, 0 ≤ n → n ≤ 32 → st.direct 0 n.toNat = .no e → Sat E w (RDec d st :: M) → Q (.tuple #[.int .u32 0, .int .i64 e]) w) :
    Calls Try.prog 48 #[.pointer (some ⟨d, 0, none⟩), .int .i64 n] w (retP Q) := by
  refine pithref08_Decoder_Direct.calls ?_
  unfold pithref08_Decoder_Direct.F
  by_cases h : 0 ≤ n ∧ n ≤ 32
  rotate_left 1
  · repeat' (first | ((first | refine pN_lss_s ?_ ?_ | refine pN_gtr_s ?_ ?_) <;> intro hc <;> try (exfalso; omega)) | refine pIf_t ?_ | refine pGd_go (by rfl) ?_ | refine pGd_no (by rfl) ?_ | refine pN_via (by (intro K; simp (disch := omega) only [go_sem, pN_min, pN_max, w_u32, w_u64, Option.isNone_some, Option.isNone_none]; (try simp only [wrap_u32, wrap_u64]); rfl)) ?_ | fail)
    all_goals exact hno h _ hS.to
  obtain ⟨m, rfl⟩ : ∃ m : Nat, n = m := ⟨n.toNat, by omega⟩
  rw [Int.toNat_natCast] at hok hre
  obtain ⟨s, hS⟩ := RDec.opn hS
  repeat' (first | (refine pc_pithref08_Decoder_Fork (R8Fork_ok hS ?_); clear hS; intro f w hS) | ((first | refine pN_lss_s ?_ ?_ | refine pN_gtr_s ?_ ?_) <;> intro hc <;> try (exfalso; omega)) | refine pIf_f ?_ | refine pGd_go (by rfl) ?_ | refine pN_via (by (intro K; simp (disch := omega) only [go_sem, pN_min, pN_max, w_u32, w_u64, Option.isNone_some, Option.isNone_none]; (try simp only [wrap_u32, wrap_u64]); rfl)) ?_ | fail)
  refine ⟨fun c i w => ∃ (j : Nat) (t : D.S) (v : Int), c = .int .i64 v ∧ i = .int .i64 j ∧ j ≤ m ∧ D.Ok t ∧ t.b = st.b ∧ 0 ≤ v ∧ v < 2 ^ j ∧ t.direct v (m - j) = st.direct 0 m ∧ Sat E w (cel f (rdC s t) :: rows cd_uint8 s st.b :: cel d (rdC s st) :: M), fun _ i _ => m - (RowKit.intOf i).toNat, ⟨0, st, 0, rfl, rfl, Nat.zero_le _, ho, rfl, by omega, by simp, rfl, hS.to⟩, ?_⟩
  clear hS
  rintro _ _ _ w ⟨j, t, v, rfl, rfl, hj, hot, htb, v0, v1, htd, hS⟩
  by_cases hlt : j < m
  · rw [show m - j = (m - (j + 1)) + 1 from by omega, D.S.direct] at htd
    have h32 : (2 : Int) ^ j ≤ 2147483648 := by
      have : (2 : Int) ^ 31 = 2147483648 := by decide
      rw [← this]
      exact R.two_le (by omega)
    have q0 := hot.r0
    have q1 := hot.r1
    have q2 := hot.c0
    have q3 := hot.c1
    have one := hot.one
    have o1 := one.c1
    have hbit : t.bitAt (t.R / 2) = if t.C < t.R / 2 then 0 else 1 := rfl
    have e1 : t.one = if t.C < t.R / 2 then ⟨t.b, t.k, t.R / 2, t.C⟩ else ⟨t.b, t.k, t.R / 2, t.C - t.R / 2⟩ := rfl
    have oR : t.one.R = t.R / 2 := by rw [e1]; split <;> rfl
    have ob := one.b
    have o0 := one.r0
    have oc := one.c0
    repeat' (first | (refine pN_lss_s ?_ ?_ <;> intro hc <;> try (exfalso; omega)) | refine pIf_t ?_ | fail)
    refine ⟨fun c w => ∃ t2 : D.S, c = .int .i64 (2 * v + t.bitAt (t.R / 2)) ∧ t.one.widen = some t2 ∧ ¬ t.one.R ≤ t.one.C ∧ Sat E w (cel f (rdC s t2) :: rows cd_uint8 s st.b :: cel d (rdC s st) :: M), ?_, ?_⟩
    rotate_left 1
    · clear hS
      rintro _ _ w ⟨t2, rfl, ht2, hnle, hS⟩
      rw [if_neg hnle, ht2] at htd
      have ho2 := one.widen (by omega) ht2
      have hb01 := D.bitAt_01 t (t.R / 2)
      repeat' (first | refine pN_via (by (intro K; simp (disch := omega) only [go_sem, pN_min, pN_max, w_u32, w_u64, Option.isNone_some, Option.isNone_none]; (try simp only [wrap_u32, wrap_u64]); rfl)) ?_ | fail)
      exact ⟨⟨j + 1, t2, 2 * v + t.bitAt (t.R / 2), rfl, rfl, by omega, ho2.1, ho2.2.trans htb, by omega, by rw [Int.pow_succ]; omega, htd, hS⟩, by simp [RowKit.intOf] <;> omega⟩
    repeat' (first | refine pN_l hS (by first | rfl | assumption) ?_ | (refine pN_s hS (by first | exact Nat.le_of_ble_eq_true rfl | assumption) (by rfl) ?_; clear hS; intro w hS; try simp only [List.set_cons_zero, List.set_cons_succ] at hS) | refine pN_via (by (intro K; simp (disch := omega) only [go_sem, pN_min, pN_max, w_u32, w_u64, Option.isNone_some, Option.isNone_none]; (try simp only [wrap_u32, wrap_u64]); rfl)) ?_ | fail)
    refine ⟨fun c w => c = .int .i64 (2 * v + t.bitAt (t.R / 2)) ∧ Sat E w (cel f (rdC s t.one) :: rows cd_uint8 s st.b :: cel d (rdC s st) :: M), ?_, ?_⟩
    · by_cases hge : t.C < t.R / 2
      · rw [if_pos hge] at hbit e1
        rw [hbit, e1, Int.add_zero]
        repeat' (first | (refine pA_geq_s ?_ ?_ <;> intro hc <;> try (exfalso; omega)) | refine pIf_f ?_ | refine pL_l hS (by first | rfl | assumption) ?_ | (refine pDr_go hS ?_; clear hS; intro w hS) | refine pA_via (by (intro K; simp (disch := omega) only [go_sem, pN_min, pN_max, w_u32, w_u64, Option.isNone_some, Option.isNone_none]; (try simp only [wrap_u32, wrap_u64]); rfl)) ?_ | fail)
        exact ⟨rfl, hS.to⟩
      · rw [if_neg hge] at hbit e1
        rw [hbit, e1]
        repeat' (first | (refine pA_geq_s ?_ ?_ <;> intro hc <;> try (exfalso; omega)) | refine pIf_t ?_ | refine pL_l hS (by first | rfl | assumption) ?_ | (refine pN_s hS (by first | exact Nat.le_of_ble_eq_true rfl | assumption) (by rfl) ?_; clear hS; intro w hS; try simp only [List.set_cons_zero, List.set_cons_succ] at hS) | (refine pDr_go hS ?_; clear hS; intro w hS) | refine ⟨trivial, ?_⟩ | refine pN_via (by (intro K; simp (disch := omega) only [go_sem, pN_min, pN_max, w_u32, w_u64, Option.isNone_some, Option.isNone_none]; (try simp only [wrap_u32, wrap_u64]); rfl)) ?_ | refine pA_via (by (intro K; simp (disch := omega) only [go_sem, pN_min, pN_max, w_u32, w_u64, Option.isNone_some, Option.isNone_none]; (try simp only [wrap_u32, wrap_u64]); rfl)) ?_ | fail)
        exact ⟨rfl, hS.to⟩
    clear hS
    rintro _ _ w ⟨rfl, hS⟩
    have hS : Sat E w (cel f (rdC s t.one) :: rows cd_uint8 s t.one.b :: cel d (rdC s st) :: M) := by rw [ob, htb]; exact hS
    by_cases hle : t.one.R ≤ t.one.C
    · rw [if_pos hle] at htd
      repeat' (first | (refine pA_geq_s ?_ ?_ <;> intro hc <;> try (exfalso; omega)) | refine pIf_t ?_ | refine pL_l hS (by first | rfl | assumption) ?_ | (refine pDr_go hS ?_; clear hS; intro w hS) | refine pA_via (by (intro K; simp (disch := omega) only [go_sem, pN_min, pN_max, w_u32, w_u64, Option.isNone_some, Option.isNone_none]; (try simp only [wrap_u32, wrap_u64]); rfl)) ?_ | fail)
      have hS : Sat E w (cel d (rdC s st) :: rows cd_uint8 s st.b :: M) := by rw [← htb, ← ob]; exact (hS.fd2 (cel d) (rows cd_uint8 s)).to
      exact hre 2 _ h.1 h.2 htd.symm (RDec.shut (d := d) (s := s) hS st rfl rfl)
    · rw [if_neg hle] at htd
      repeat' (first | (refine pA_geq_s ?_ ?_ <;> intro hc <;> try (exfalso; omega)) | refine pIf_f ?_ | refine pL_l hS (by first | rfl | assumption) ?_ | (refine pDr_go hS ?_; clear hS; intro w hS) | refine pA_via (by (intro K; simp (disch := omega) only [go_sem, pN_min, pN_max, w_u32, w_u64, Option.isNone_some, Option.isNone_none]; (try simp only [wrap_u32, wrap_u64]); rfl)) ?_ | fail)
      refine pc_pithref08_Decoder_widen (R8widen_ok (hS.fd2 (cel f) (rows cd_uint8 s)) one.k (by rw [ob, htb]; exact hb) (by omega) oc (by omega) (fun t2 w ht2 hS => ?_) fun w hnone hS => ?_)
      · repeat' (first | refine pIf_f ?_ | refine pN_via (by (intro K; simp (disch := omega) only [go_sem, pN_min, pN_max, w_u32, w_u64, Option.isNone_some, Option.isNone_none]; (try simp only [wrap_u32, wrap_u64]); rfl)) ?_ | fail)
        rw [ob, htb] at hS
        exact ⟨t2, rfl, ht2, hle, hS⟩
      · rw [hnone] at htd
        repeat' (first | refine pIf_t ?_ | refine pN_via (by (intro K; simp (disch := omega) only [go_sem, pN_min, pN_max, w_u32, w_u64, Option.isNone_some, Option.isNone_none]; (try simp only [wrap_u32, wrap_u64]); rfl)) ?_ | fail)
        have hS : Sat E w (cel d (rdC s st) :: rows cd_uint8 s st.b :: M) := by rw [← htb, ← ob]; exact (hS.fd2 (cel d) (rows cd_uint8 s)).to
        exact hre 1 _ h.1 h.2 htd.symm (RDec.shut (d := d) (s := s) hS st rfl rfl)
  · obtain rfl : j = m := by omega
    rw [Nat.sub_self, D.S.direct] at htd
    have h32 : (2 : Int) ^ j ≤ 4294967296 := by
      have : (2 : Int) ^ 32 = 4294967296 := by decide
      rw [← this]
      exact R.two_le (by omega)
    repeat' (first | (refine pN_lss_s ?_ ?_ <;> intro hc <;> try (exfalso; omega)) | refine pIf_f ?_ | refine pN_la hS (by rfl) ?_ | (refine pN_sa hS (by rfl) (by rfl) (by rfl) ?_; clear hS; intro w hS; try dsimp only at hS) | refine pN_via (by (intro K; simp (disch := omega) only [go_sem, pN_min, pN_max, w_u32, w_u64, Option.isNone_some, Option.isNone_none]; (try simp only [wrap_u32, wrap_u64]); rfl)) ?_ | fail)
    have er : rows cd_uint8 s st.b = rows cd_uint8 s t.b := by rw [htb]
    rw [er] at hS
    have hS : Sat E w (cel d (rdC s t) :: rows cd_uint8 s t.b :: cel f (rdC s t) :: M) := hS.fd2 (cel d) (rows cd_uint8 s)
    have hS : Sat E w (cel d (rdC s t) :: rows cd_uint8 s t.b :: M) := hS.to
    exact hok t v _ h.1 h.2 htd.symm (RDec.shut (d := d) (s := s) hS t rfl rfl)

theorem R8New_ok {s0 : Sl} {l : List UInt8} (hS : Sat E w M) [hr : Rds cd_uint8 M s0 l] (hb : l.length ≤ 140737488355328)
    (hok : ∀ t d w, D.start l = .ok t () → Sat E w (RDec d t :: M) → Q (.tuple #[.pointer (some ⟨d, 0, none⟩), .int .i64 0]) w)
    (hre : ∀ e w, D.start l = .no e → Sat E w M → Q (.tuple #[.pointer none, .int .i64 e]) w) :
    Calls Try.prog 43 #[.slice s0.a l.length s0.c] w (retP Q) := by
  refine pithref08_New.calls ?_
  unfold pithref08_New.F
  by_cases h5 : l.length < 5
  · repeat' (first | (refine pN_lss_s ?_ ?_ <;> intro hc <;> try (exfalso; omega)) | refine pIf_t ?_ | refine pN_via (by (intro K; simp (disch := omega) only [go_sem, pN_min, pN_max, w_u32, w_u64, Option.isNone_some, Option.isNone_none]; (try simp only [wrap_u32, wrap_u64]); rfl)) ?_ | fail)
    exact hre 1 _ (by rw [D.start, if_pos h5]) hS
  obtain ⟨b0, hb0⟩ : ∃ x, l[0]? = some x := ⟨l[0]'(by omega), by simp⟩
  repeat' (first | (refine pN_lss_s ?_ ?_ <;> intro hc <;> try (exfalso; omega)) | refine pIf_f ?_ | refine pN_via (by (intro K; simp (disch := omega) only [go_sem, pN_min, pN_max, w_u32, w_u64, Option.isNone_some, Option.isNone_none]; (try simp only [wrap_u32, wrap_u64]); rfl)) ?_ | fail)
  refine ⟨fun c v w => ∃ i : Nat, c = .int .i64 (D.front l i) ∧ v = .int .i64 ((i + 1 : Nat) : Int) ∧ i ≤ 4 ∧ Sat E w M, fun _ v _ => 5 - (RowKit.intOf v).toNat, ⟨0, by rw [D.front_0], rfl, by omega, hS⟩, ?_⟩
  clear hS
  rintro _ _ _ w ⟨i, rfl, rfl, hi, hS⟩
  by_cases hlt : i < 4
  · obtain ⟨x, hx⟩ : ∃ x, l[i + 1]? = some x := ⟨l[i + 1]'(by omega), by simp⟩
    have hx2 := x.toNat_lt
    have hfs := D.front_succ l i hx
    have hf3 := D.front_lt l i (by omega)
    have e3 : 256 * D.front l i + (x.toNat : Int) = D.front l (i + 1) := by rw [hfs, Int.mul_comm]
    repeat' (first | (refine pN_lss_s ?_ ?_ <;> intro hc <;> try (exfalso; omega)) | refine pIf_t ?_ | refine pN_ofb ?_ | refine pN_ld1 ha hS ?_ | refine pN_ixk hS _ (by first | rfl | (exact (Int.toNat_of_nonneg (by omega)).symm)) (by first | rfl | omega | simpa only [go_sem] using True.intro | (simp only [go_sem]; omega)) (by assumption) fun a ha hel => ?_ | refine pN_via (by (intro K; simp (disch := omega) only [go_sem, pN_min, pN_max, w_u32, w_u64, Option.isNone_some, Option.isNone_none]; (try simp only [wrap_u32, wrap_u64]); rfl)) ?_ | fail)
    rw [e3]
    exact ⟨⟨i + 1, rfl, rfl, by omega, hS⟩, by simp [RowKit.intOf] <;> omega⟩
  · obtain rfl : i = 4 := by omega
    have hf4 := D.front_bd l 4 (by omega)
    have h4 : (256 : Int) ^ 4 = 4294967296 := by decide
    have hst : D.start l = if b0 ≠ 0 ∨ D.front l 4 = 4294967295 then .no 2 else .ok ⟨l, 5, 4294967295, D.front l 4⟩ () := by
      rw [D.start, if_neg h5, hb0]; simp
    have hbe : b0 = 0 ↔ (b0.toNat : Int) = ((0 : UInt8).toNat : Int) := ⟨fun e => by rw [e], fun e => UInt8.toNat_inj.1 (by omega)⟩
    repeat' (first | (refine pN_lss_s ?_ ?_ <;> intro hc <;> try (exfalso; omega)) | ((first | refine pN_eql_s ?_ ?_ | refine pN_neq_s ?_ ?_) <;> intro hc <;> try (exfalso; first | omega | exact hc rfl | exact hc (by assumption) | exact absurd hc (by assumption))) | refine pIf_t ?_ | refine pIf_f ?_ | refine pGd_go (by rfl) ?_ | refine pGd_no (by rfl) ?_ | refine pN_l hS (by first | rfl | assumption) ?_ | refine pN_ld1 ha hS ?_ | (refine pN_s hS (by first | exact Nat.le_of_ble_eq_true rfl | assumption) (by rfl) ?_; clear hS; intro w hS; try simp only [List.set_cons_zero, List.set_cons_succ] at hS) | (refine pN_bx hS (by rfl) ?_; clear hS; intro a w hS) | refine pN_ixk hS _ (by first | rfl | (exact (Int.toNat_of_nonneg (by omega)).symm)) (by first | rfl | omega | simpa only [go_sem] using True.intro | (simp only [go_sem]; omega)) (by assumption) fun a ha hel => ?_ | (refine pN_app0 hS (by first | rfl | omega | simpa only [go_sem] using True.intro | (simp only [go_sem]; omega)) (by first | omega | (simp only [go_sem]; omega)) ?_; clear hS; intro s w hS) | refine pN_via (by (intro K; simp (disch := omega) only [go_sem, pN_min, pN_max, w_u32, w_u64, Option.isNone_some, Option.isNone_none]; (try simp only [wrap_u32, wrap_u64]); rfl)) ?_ | fail)
    · exact hre 2 _ (by rw [hst, if_pos (.inr hc)]) hS
    · have hS := RDec.shut (d := a) (s := s) hS ⟨l, 5, 4294967295, D.front l 4⟩ rfl rfl
      refine hok ⟨l, 5, 4294967295, D.front l 4⟩ _ _ ?_ hS
      rw [hst, if_neg]
      rintro (h | h)
      · exact h (hbe.2 (by assumption))
      · exact hc h
    · exact hre 2 _ (by rw [hst, if_pos (.inl fun e => hc (hbe.1 e))]) hS
end

end Go.Proofs.Ytoejaggkedlfmaa

namespace Go.Proofs.Ytoejaggkedlfmaa
open Go
set_option linter.unusedSimpArgs false
set_option linter.unnecessarySimpa false
set_option linter.unusedSectionVars false
set_option linter.unusedVariables false
attribute [local irreducible] oMv oV oU oCall oCallV oBi oBin oUn oLoad oStore oNil oFld oField oIdx oIndex oPick oAlloc oBox oBuild oBs oConv oMk oSl oExt oFn oIface oMap oLook oMapUp oRange oNext oAssert oPanic oRes pN pA pL pDr pIf gA pGd

namespace D
/-- A question for a bit: the decoder behind it, the row, the bit, the number. -/
def S.bitQ (st : S) (l : List Int) (i : Int) : S × List Int × Int × Int :=
  if 0 ≤ i ∧ i < l.length then match st.bit (B.bound st.R (l.getD i.toNat 0)) with
    | .ok t v => (t, l.set i.toNat (B.next (l.getD i.toNat 0) v), v, 0)
    | .no e => (st, l, 0, e)
  else (st, l, 0, 7)
/-- A question for bits without a probability. -/
def S.dirQ (st : S) (n : Int) : S × Int × Int :=
  if 0 ≤ n ∧ n ≤ 32 then match st.direct 0 n.toNat with
    | .ok t v => (t, v, 0)
    | .no e => (st, 0, e)
  else (st, 0, 7)
theorem bit_mid {st : S} (ho : Ok st) {l : List Int} (hf : B.Fine l) {i : Int} (h : 0 ≤ i ∧ i < l.length) : 65536 ≤ B.bound st.R (l.getD i.toNat 0) ∧ 65536 ≤ st.R - B.bound st.R (l.getD i.toNat 0) := by
  have hx : l[i.toNat]? = some (l.getD i.toNat 0) := by
    rw [List.getD_eq_getElem?_getD, List.getElem?_eq_getElem (show i.toNat < l.length by omega)]; rfl
  have hp := hf.get hx
  exact bound_mid ho.r0 hp.1 hp.2
theorem bitQ_ok {st : S} (ho : Ok st) {l : List Int} (hf : B.Fine l) (i : Int) : Ok (st.bitQ l i).1 ∧ (st.bitQ l i).1.b = st.b ∧ B.Fine (st.bitQ l i).2.1 ∧ (st.bitQ l i).2.1.length = l.length := by
  unfold S.bitQ
  split
  · rename_i h
    have hm := bit_mid ho hf h
    split
    · rename_i t v e
      have := ho.bit hm.1 hm.2 e
      have hx : l[i.toNat]? = some (l.getD i.toNat 0) := by
        rw [List.getD_eq_getElem?_getD, List.getElem?_eq_getElem (show i.toNat < l.length by omega)]; rfl
      have o1 := ((⟨R.Ok.new, hf⟩ : R.TS.Ok ⟨R.S.new, l⟩).bit h.1 h.2 v).1.f
      exact ⟨this.1, this.2.1, o1, by simp⟩
    · exact ⟨ho, rfl, hf, rfl⟩
  · exact ⟨ho, rfl, hf, rfl⟩
theorem dirQ_ok {st : S} (ho : Ok st) (n : Int) : Ok (st.dirQ n).1 ∧ (st.dirQ n).1.b = st.b := by
  unfold S.dirQ
  split
  · split
    · rename_i t v e
      exact Ok.direct _ ho e
    · exact ⟨ho, rfl⟩
  · exact ⟨ho, rfl⟩
end D

section
variable {E w : World} {M : List HA} {Q : Value → World → Prop} {d p : Nat} {st : D.S} {l : List Int}

theorem DBit_q (hS : Sat E w (Dec d st :: PSet p l :: M)) (ho : D.Ok st) (hf : B.Fine l) (hb : st.b.length ≤ 225000000000000) (i : Int)
    (hQ : ∀ w, Sat E w (Dec d (st.bitQ l i).1 :: PSet p (st.bitQ l i).2.1 :: M) → Q (.tuple #[.int .i64 (st.bitQ l i).2.2.1, .int .i64 (st.bitQ l i).2.2.2]) w) :
    Calls Try.prog 49 #[.pointer (some ⟨d, 0, none⟩), .pointer (some ⟨p, 0, none⟩), .int .i64 i] w (retP Q) := by
  unfold D.S.bitQ at hQ
  refine DBit_ok hS ho hf hb i (fun h w hS => ?_) (fun t v w h0 h1 e hS => ?_) fun e w h0 h1 he hS => ?_
  · simp only [if_neg h] at hQ; exact hQ w hS
  · simp only [if_pos (show 0 ≤ i ∧ i < l.length from ⟨h0, h1⟩), e] at hQ; exact hQ w hS
  · simp only [if_pos (show 0 ≤ i ∧ i < l.length from ⟨h0, h1⟩), he] at hQ; exact hQ w hS
theorem R8Bit_q (hS : Sat E w (RDec d st :: RSet p l :: M)) (ho : D.Ok st) (hf : B.Fine l) (hb : st.b.length ≤ 140737488355328) (i : Int)
    (hQ : ∀ w, Sat E w (RDec d (st.bitQ l i).1 :: RSet p (st.bitQ l i).2.1 :: M) → Q (.tuple #[.int .i64 (st.bitQ l i).2.2.1, .int .i64 (st.bitQ l i).2.2.2]) w) :
    Calls Try.prog 50 #[.pointer (some ⟨d, 0, none⟩), .pointer (some ⟨p, 0, none⟩), .int .i64 i] w (retP Q) := by
  unfold D.S.bitQ at hQ
  refine R8Bit_ok hS ho hf hb i (fun h w hS => ?_) (fun t v w h0 h1 e hS => ?_) fun e w h0 h1 he hS => ?_
  · simp only [if_neg h] at hQ; exact hQ w hS
  · simp only [if_pos (show 0 ≤ i ∧ i < l.length from ⟨h0, h1⟩), e] at hQ; exact hQ w hS
  · simp only [if_pos (show 0 ≤ i ∧ i < l.length from ⟨h0, h1⟩), he] at hQ; exact hQ w hS
theorem DDirect_q (hS : Sat E w (Dec d st :: M)) (ho : D.Ok st) (hb : st.b.length ≤ 225000000000000) (n : Int)
    (hQ : ∀ w, Sat E w (Dec d (st.dirQ n).1 :: M) → Q (.tuple #[.int .u32 (st.dirQ n).2.1, .int .i64 (st.dirQ n).2.2]) w) :
    Calls Try.prog 47 #[.pointer (some ⟨d, 0, none⟩), .int .i64 n] w (retP Q) := by
  unfold D.S.dirQ at hQ
  refine DDirect_ok hS ho hb n (fun h w hS => ?_) (fun t v w h0 h1 e hS => ?_) fun e w h0 h1 he hS => ?_
  · simp only [if_neg h] at hQ; exact hQ w hS
  · simp only [if_pos (show 0 ≤ n ∧ n ≤ 32 from ⟨h0, h1⟩), e] at hQ; exact hQ w hS
  · simp only [if_pos (show 0 ≤ n ∧ n ≤ 32 from ⟨h0, h1⟩), he] at hQ; exact hQ w hS
theorem R8Direct_q (hS : Sat E w (RDec d st :: M)) (ho : D.Ok st) (hb : st.b.length ≤ 140737488355328) (n : Int)
    (hQ : ∀ w, Sat E w (RDec d (st.dirQ n).1 :: M) → Q (.tuple #[.int .u32 (st.dirQ n).2.1, .int .i64 (st.dirQ n).2.2]) w) :
    Calls Try.prog 48 #[.pointer (some ⟨d, 0, none⟩), .int .i64 n] w (retP Q) := by
  unfold D.S.dirQ at hQ
  refine R8Direct_ok hS ho hb n (fun h w hS => ?_) (fun t v w h0 h1 e hS => ?_) fun e w h0 h1 he hS => ?_
  · simp only [if_neg h] at hQ; exact hQ w hS
  · simp only [if_pos (show 0 ≤ n ∧ n ≤ 32 from ⟨h0, h1⟩), e] at hQ; exact hQ w hS
  · simp only [if_pos (show 0 ≤ n ∧ n ≤ 32 from ⟨h0, h1⟩), he] at hQ; exact hQ w hS
theorem DNew_in {s0 : Sl} {l : List UInt8} (hS : Sat E w M) [hr : Rds cd_uint8 M s0 l] (hb : l.length ≤ 225000000000000) {t : D.S} (h : D.start l = .ok t ())
    (hok : ∀ d w, Sat E w (Dec d t :: M) → Q (.tuple #[.pointer (some ⟨d, 0, none⟩), .int .i64 0]) w) : Calls Try.prog 42 #[.slice s0.a l.length s0.c] w (retP Q) :=
  DNew_ok hS hb (fun t' d w e hS => by rw [h] at e; cases e; exact hok d w hS) fun e w he _ => by rw [h] at he; cases he
theorem DNew_no {s0 : Sl} {l : List UInt8} (hS : Sat E w M) [hr : Rds cd_uint8 M s0 l] (hb : l.length ≤ 225000000000000) {e : Int} (h : D.start l = .no e)
    (hre : ∀ w, Sat E w M → Q (.tuple #[.pointer none, .int .i64 e]) w) : Calls Try.prog 42 #[.slice s0.a l.length s0.c] w (retP Q) :=
  DNew_ok hS hb (fun t' d w e hS => by rw [h] at e; cases e) fun e' w he hS => by rw [h] at he; cases he; exact hre w hS
theorem R8New_in {s0 : Sl} {l : List UInt8} (hS : Sat E w M) [hr : Rds cd_uint8 M s0 l] (hb : l.length ≤ 140737488355328) {t : D.S} (h : D.start l = .ok t ())
    (hok : ∀ d w, Sat E w (RDec d t :: M) → Q (.tuple #[.pointer (some ⟨d, 0, none⟩), .int .i64 0]) w) : Calls Try.prog 43 #[.slice s0.a l.length s0.c] w (retP Q) :=
  R8New_ok hS hb (fun t' d w e hS => by rw [h] at e; cases e; exact hok d w hS) fun e w he _ => by rw [h] at he; cases he
theorem R8New_no {s0 : Sl} {l : List UInt8} (hS : Sat E w M) [hr : Rds cd_uint8 M s0 l] (hb : l.length ≤ 140737488355328) {e : Int} (h : D.start l = .no e)
    (hre : ∀ w, Sat E w M → Q (.tuple #[.pointer none, .int .i64 e]) w) : Calls Try.prog 43 #[.slice s0.a l.length s0.c] w (retP Q) :=
  R8New_ok hS hb (fun t' d w e hS => by rw [h] at e; cases e) fun e' w he hS => by rw [h] at he; cases he; exact hre w hS

theorem num_ok (n : Int) (h : -9223372036854775808 ≤ n ∧ n < 9223372036854775808) (hQ : Q (.int .i64 n) w) : Calls Try.prog 44 #[.int .i64 n] w (retP Q) := by
  refine pithlaw08_num.calls ?_
  unfold pithlaw08_num.F
  skip
  exact hQ

theorem known_1 : D.start [0, 127, 255, 252, 0] = .ok ⟨[0, 127, 255, 252, 0], 5, 4294967295, 2147482624⟩ () := by simp [D.start, D.front, R.num]
theorem known_2 : D.start [0, 255, 255, 255, 254] = .ok ⟨[0, 255, 255, 255, 254], 5, 4294967295, 4294967294⟩ () := by simp [D.start, D.front, R.num]
theorem known_b : B.bound 4294967295 1024 = 2147482624 := by decide
theorem known_3 : (⟨[0, 127, 255, 252, 0], 5, 4294967295, 2147482624⟩ : D.S).bitQ [1024] 0 = (⟨[0, 127, 255, 252, 0], 5, 2147484671, 0⟩, [B.next 1024 1], 1, 0) := by
  simp [D.S.bitQ, D.S.bit, known_b, D.S.cut, D.S.widen, D.S.bitAt]
theorem known_4 : (⟨[0, 255, 255, 255, 254], 5, 4294967295, 4294967294⟩ : D.S).dirQ 1 = (⟨[0, 255, 255, 255, 254], 5, 4294967295, 4294967294⟩, 0, 2) := by
  simp [D.S.dirQ, D.S.direct, D.S.one]

set_option maxHeartbeats 2000000 in
theorem known_ok (hS : Sat E w M) (hQ : ∀ w, Sat E w M → Q (.bool true) w) : Calls Try.prog 41 #[] w (retP Q) := by
  refine pithlaw08_known.calls ?_
  unfold pithlaw08_known.F
  refine pN_bl (C := cd_uint8) [bv 0, bv 127, bv 255, bv 252, bv 0] [0, 127, 255, 252, 0] rfl rfl rfl (Nat.le_of_ble_eq_true rfl) hS (Nat.le_of_ble_eq_true rfl) fun s w hS => ?_
  repeat' (first | refine pc_pithlaw08_num (num_ok _ (by decide) ?_) | (refine pc_rcdec_New (DNew_in hS (by decide) known_1 ?_); clear hS; intro d w hS) | (refine pc_prob_New (New_ok hS 1 (by decide) (by decide) ?_); clear hS; intro p w hS) | (refine pN_neq_s ?_ ?_ <;> intro hc <;> try (exfalso; first | omega | exact hc rfl | exact hc (by assumption) | exact absurd hc (by assumption))) | refine pIf_f ?_ | refine pGd_go (by rfl) ?_ | refine pN_via (by (intro K; simp (disch := omega) only [go_sem, pN_min, pN_max, w_u32, w_u64, Option.isNone_some, Option.isNone_none]; (try simp only [wrap_u32, wrap_u64]); rfl)) ?_ | fail)
  have hS : Sat E w (Dec d ⟨[0, 127, 255, 252, 0], 5, 4294967295, 2147482624⟩ :: PSet p [1024] :: rows cd_uint8 s [0, 127, 255, 252, 0] :: M) := (show Sat E w (PSet p [1024] :: Dec d ⟨[0, 127, 255, 252, 0], 5, 4294967295, 2147482624⟩ :: rows cd_uint8 s [0, 127, 255, 252, 0] :: M) from hS).to
  refine pc_rcdec_Decoder_Bit (DBit_q hS (D.start_ok known_1).1 (B.Fine.new 1) (by decide) 0 fun w hS => ?_)
  rw [known_3] at hS ⊢
  repeat' (first | refine pN_via (by (intro K; simp (disch := omega) only [go_sem, pN_min, pN_max, w_u32, w_u64, Option.isNone_some, Option.isNone_none]; (try simp only [wrap_u32, wrap_u64]); rfl)) ?_ | fail)
  refine pN_bl (C := cd_uint8) [bv 0, bv 255, bv 255, bv 255, bv 254] [0, 255, 255, 255, 254] rfl rfl rfl (Nat.le_of_ble_eq_true rfl) hS (Nat.le_of_ble_eq_true rfl) fun s2 w hS => ?_
  repeat' (first | refine pc_pithlaw08_num (num_ok _ (by decide) ?_) | (refine pc_rcdec_New (DNew_in hS (by decide) known_2 ?_); clear hS; intro d2 w hS) | (refine pN_neq_s ?_ ?_ <;> intro hc <;> try (exfalso; first | omega | exact hc rfl | exact hc (by assumption) | exact absurd hc (by assumption))) | refine pIf_f ?_ | refine pGd_go (by rfl) ?_ | refine pN_via (by (intro K; simp (disch := omega) only [go_sem, pN_min, pN_max, w_u32, w_u64, Option.isNone_some, Option.isNone_none]; (try simp only [wrap_u32, wrap_u64]); rfl)) ?_ | fail)
  refine pc_rcdec_Decoder_Direct (DDirect_q hS (D.start_ok known_2).1 (by decide) 1 fun w hS => ?_)
  rw [known_4] at hS ⊢
  have hd : decide ((5 : Nat) = ([0, 127, 255, 252, 0] : List UInt8).length ∧ (0 : Int) = 0) = true := by decide
  repeat' (first | refine pc_pithlaw08_num (num_ok _ (by decide) ?_) | (refine pc_rcdec_Decoder_Used (Used_ok (hS.fd (Dec _)) ?_); clear hS; intro w hS) | (refine pN_eql_s ?_ ?_ <;> intro hc <;> try (exfalso; first | omega | exact hc rfl | exact hc (by assumption) | exact absurd hc (by assumption))) | refine pGd_go (by rfl) ?_ | refine pN_via (by (intro K; simp (disch := omega) only [go_sem, pN_min, pN_max, w_u32, w_u64, Option.isNone_some, Option.isNone_none]; (try simp only [wrap_u32, wrap_u64]); rfl)) ?_ | fail)
  refine pc_rcdec_Decoder_Done (Done_ok (hS.fd (Dec d)) fun w hS => ?_)
  dsimp only
  rw [hd]
  repeat' (first | refine pc_pithlaw08_num (num_ok _ (by decide) ?_) | (refine pc_rcdec_Decoder_Used (Used_ok (hS.fd (Dec _)) ?_); clear hS; intro w hS) | (refine pN_eql_s ?_ ?_ <;> intro hc <;> try (exfalso; first | omega | exact hc rfl | exact hc (by assumption) | exact absurd hc (by assumption))) | refine pGd_go (by rfl) ?_ | refine pN_via (by (intro K; simp (disch := omega) only [go_sem, pN_min, pN_max, w_u32, w_u64, Option.isNone_some, Option.isNone_none]; (try simp only [wrap_u32, wrap_u64]); rfl)) ?_ | fail)
  exact hQ _ hS.to

theorem alike8_ok {r : Nat} (hS : Sat E w (PSet p l :: RSet r l :: M)) (n : Nat) (hn : n ≤ l.length) (hb : n ≤ 140737488355328) (hQ : ∀ w, Sat E w (PSet p l :: RSet r l :: M) → Q (.bool true) w) :
    Calls Try.prog 55 #[.pointer (some ⟨p, 0, none⟩), .pointer (some ⟨r, 0, none⟩), .int .i64 n] w (retP Q) := by
  refine pithlaw08_alike.calls ?_
  unfold pithlaw08_alike.F
  refine ⟨fun v w => ∃ j : Nat, v = .int .i64 j ∧ j ≤ n ∧ Sat E w (PSet p l :: RSet r l :: M), fun v _ => n - (RowKit.intOf v).toNat, ⟨0, rfl, Nat.zero_le _, hS⟩, ?_⟩
  clear hS
  rintro _ _ w ⟨j, rfl, hj, hS⟩
  by_cases hlt : j < n
  · obtain ⟨y, hy⟩ : ∃ y, l[j]? = some y := ⟨l[j]'(by omega), by simp⟩
    have hra : ∀ {w : World} {Q : Value → World → Prop}, Sat E w (RSet r l :: PSet p l :: M) → (∀ w, Sat E w (RSet r l :: PSet p l :: M) → Q (.tuple #[.int .i64 y, .int .i64 0]) w) → Calls Try.prog 79 #[.pointer (some ⟨r, 0, none⟩), .int .i64 j] w (retP Q) := fun hS hQ => by
      refine RAt_ok hS j fun w hS => ?_
      have e : l.getD j 0 = y := by rw [List.getD_eq_getElem?_getD, hy]; rfl
      rw [if_pos (by omega), if_pos (by omega), Int.toNat_natCast, e]
      exact hQ w hS
    repeat' (first | (refine pc_prob_Set_At (At_in (hS.fd (PSet p)) (j : Int) (by omega) (by rw [Int.toNat_natCast]; exact hy) ?_); clear hS; intro w hS) | (refine pc_pithref06_Set_At (hra (hS.fd2 (RSet r) (PSet p)) ?_); clear hS; intro w hS) | refine pc_pithlaw08_num (num_ok _ (by decide) ?_) | (refine pN_lss_s ?_ ?_ <;> intro hc <;> try (exfalso; omega)) | (refine pN_neq_s ?_ ?_ <;> intro hc <;> try (exfalso; first | omega | exact hc rfl | exact hc (by assumption) | exact absurd hc (by assumption))) | refine pIf_t ?_ | refine pIf_f ?_ | refine pGd_go (by rfl) ?_ | refine pN_via (by (intro K; simp (disch := omega) only [go_sem, pN_min, pN_max, w_u32, w_u64, Option.isNone_some, Option.isNone_none]; (try simp only [wrap_u32, wrap_u64]); rfl)) ?_ | fail)
    exact ⟨⟨j + 1, rfl, by omega, hS.to⟩, by simp [RowKit.intOf] <;> omega⟩
  · repeat' (first | (refine pN_lss_s ?_ ?_ <;> intro hc <;> try (exfalso; omega)) | refine pIf_f ?_ | fail)
    exact hQ _ hS.to
end

end Go.Proofs.Ytoejaggkedlfmaa

namespace Go.Proofs.Ytoejaggkedlfmaa
open Go
set_option linter.unusedSimpArgs false
set_option linter.unnecessarySimpa false
set_option linter.unusedSectionVars false
set_option linter.unusedVariables false
attribute [local irreducible] oMv oV oU oCall oCallV oBi oBin oUn oLoad oStore oNil oFld oField oIdx oIndex oPick oAlloc oBox oBuild oBs oConv oMk oSl oExt oFn oIface oMap oLook oMapUp oRange oNext oAssert oPanic oRes pN pA pL pDr pIf gA pGd

/-- Errnos are small. -/
theorem D.bitQ_e (st : D.S) (l : List Int) (i : Int) : -9223372036854775808 ≤ (st.bitQ l i).2.2.2 ∧ (st.bitQ l i).2.2.2 < 9223372036854775808 := by
  unfold D.S.bitQ
  split
  · unfold D.S.bit
    split
    · exact ⟨by simp, by simp⟩
    · rename_i e he
      split at he
      · cases he
      · cases he; exact ⟨by simp, by simp⟩
  · exact ⟨by simp, by simp⟩
theorem D.direct_e : ∀ (n : Nat) (st : D.S) (v e : Int), st.direct v n = .no e → e = 1 ∨ e = 2
  | 0, st, v, e, h => by cases h
  | n + 1, st, v, e, h => by
    simp only [D.S.direct] at h
    split at h
    · cases h; exact .inr rfl
    · split at h
      · cases h; exact .inl rfl
      · exact D.direct_e n _ _ _ h
theorem D.dirQ_e (st : D.S) (n : Int) : -9223372036854775808 ≤ (st.dirQ n).2.2 ∧ (st.dirQ n).2.2 < 9223372036854775808 := by
  unfold D.S.dirQ
  split
  · split
    · exact ⟨by simp, by simp⟩
    · rename_i e he
      rcases D.direct_e _ _ _ _ he with rfl | rfl <;> exact ⟨by simp, by simp⟩
  · exact ⟨by simp, by simp⟩

theorem D.start_e {b : List UInt8} {e : Int} (h : D.start b = .no e) : e = 1 ∨ e = 2 := by
  unfold D.start at h
  split at h
  · cases h; exact .inl rfl
  · split at h
    · cases h; exact .inr rfl
    · cases h

theorem pA_slh {P : Program} {E w : World} {J : Value → Prop} {L : List HA} {α : Type} {C : Cd α} {t : TypeId} {s : Sl} {l : List α} {n : Nat} {k2 : IntKind} {i2 : Int} (hS : Sat E w L) [Row P t α C] [h : Rds C L s l] (hi : Nat) (h2 : i2 = (hi : Int)) (hn : n = l.length) (hhi : hi ≤ l.length)
    (hk : ∀ s', Part C s l s' (l.take hi) → J (.slice s'.a hi s'.c)) : pA P (oSl t (.slice s.a n s.c) none (some (.int k2 i2)) none) J := by
  subst h2 hn
  refine pA_sl_h (Row.slt (C := C)) (hS.rds (C := C) (s := s)) (by omega) (by omega) ?_
  rw [Int.toNat_natCast, subV_sl]
  refine hk _ ⟨fun L h => ?_⟩
  have := Rds.sub (C := C) (L := L) (s := s) (l := l) 0 hi (Nat.zero_le _) hhi
  rwa [List.drop_zero, Nat.sub_zero] at this

def EInv (W : World) (d r p q n : Nat) (b : List UInt8) (w : World) : Prop := ∃ (st : D.S) (l : List Int), D.Ok st ∧ st.b = b ∧ B.Fine l ∧ l.length = n ∧ Sat W w [Dec d st, RDec r st, PSet p l, RSet q l, old W]

set_option maxHeartbeats 8000000 in
theorem walk_RcdecExact (W : World) (x0 : Sl × List UInt8) (x1 : Int) (x2 : Sl × List T_pithlaw08_Ask) (k0 k1 k2 : Nat)
    (h0 : RdP cd_uint8 (old W) x0.1 x0.2 ∧ x0.2.length * 1 ≤ reachBytes ∧ x0.2.length + 1 ≤ k0 ∧ ∀ c ∈ x0.2, ∃ k, k ≤ k0 ∧ True) (h1 : -9223372036854775808 ≤ x1 ∧ x1 < 9223372036854775808)
    (h2 : RdP cd_pithlaw08_Ask (old W) x2.1 x2.2 ∧ x2.2.length * 32 ≤ reachBytes ∧ x2.2.length + 1 ≤ k2 ∧ ∀ c ∈ x2.2, ∃ k, k ≤ k2 ∧ c.ok W k) :
    Calls Try.prog 8 #[.slice x0.1.a x0.2.length x0.1.c, .int .i64 x1, .slice x2.1.a x2.2.length x2.1.c] W fun e W' => e = .returned (.bool true) ∧ RowKit.Below W.heap.size W W' := by
  refine walk_end (pithlaw08_RcdecExact.calls ?_)
  unfold pithlaw08_RcdecExact.F
  obtain ⟨r0, s0, _, _⟩ := h0
  obtain ⟨r2, s2, _, o2⟩ := h2
  have hrb : reachBytes = 140737488351232 := rfl
  obtain ⟨b, l⟩ := x0
  dsimp only at r0 s0 ⊢
  have hS := Sat.start W
  by_cases hn : 0 ≤ x1 ∧ x1 ≤ 64
  rotate_left 1
  · repeat' (first | (refine pc_pithlaw08_known (known_ok hS ?_); clear hS; intro w hS) | ((first | refine pN_lss_s ?_ ?_ | refine pN_gtr_s ?_ ?_) <;> intro hc <;> try (exfalso; omega)) | refine pIf_t ?_ | refine pGd_go (by rfl) ?_ | refine pGd_no (by rfl) ?_ | refine pN_via (by (intro K; simp (disch := omega) only [go_sem, pN_min, pN_max, w_u32, w_u64, Option.isNone_some, Option.isNone_none]; (try simp only [wrap_u32, wrap_u64]); rfl)) ?_ | fail)
    all_goals exact ⟨rfl, hS⟩
  obtain ⟨n, rfl⟩ : ∃ n : Nat, x1 = n := ⟨x1.toNat, by omega⟩
  repeat' (first | ((first | refine pN_lss_s ?_ ?_ | refine pN_gtr_s ?_ ?_) <;> intro hc <;> try (exfalso; omega)) | refine pIf_f ?_ | refine pGd_go (by rfl) ?_ | (refine pN_b1 hS (by rfl) (by decide) ?_; clear hS; intro s w hS) | (refine pN_b0 hS ?_; clear hS; intro s w hS) | (refine pN_app hS (by first | rfl | omega | simpa only [go_sem] using True.intro | (simp only [go_sem]; omega)) (by first | rfl | omega | simpa only [go_sem] using True.intro | (simp only [go_sem]; omega)) (by first | omega | (simp only [go_sem]; omega)) ?_; clear hS; intro s w hS) | refine pN_via (by (intro K; simp (disch := omega) only [go_sem, pN_min, pN_max, w_u32, w_u64, Option.isNone_some, Option.isNone_none]; (try simp only [wrap_u32, wrap_u64]); rfl)) ?_ | fail)
  rw [List.nil_append] at *
  have hS : Sat W w [rows cd_uint8 s (l ++ [153]), old W] := hS.to
  have hx0 : (l ++ [(153 : UInt8)])[l.length]? = some 153 := by simp
  have hlen : (l ++ [(153 : UInt8)]).length = l.length + 1 := by simp
  refine pN_slh hS l.length rfl rfl (by simp) fun s4 hp => ?_
  have hr4 : ∀ (L : List HA) [Rds cd_uint8 L s (l ++ [153])], Rds cd_uint8 L s4 l := fun L h => by
    have := hp.rd L h
    rwa [List.take_left' rfl] at this
  rcases hst : D.start l with ⟨t, u⟩ | e
  rotate_left 1
  · have he := D.start_e hst
    refine pc_rcdec_New (DNew_no hS (by omega) hst fun w hS => ?_)
    repeat' (first | refine pc_pithlaw08_num (num_ok _ (by omega) ?_) | (refine pc_pithref08_New (R8New_no hS (by omega) hst ?_); clear hS; intro w hS) | (refine pA_neq_s ?_ ?_ <;> intro hc <;> try (exfalso; first | omega | exact hc rfl | exact hc (by assumption) | exact absurd hc (by assumption))) | refine gA_go (by rfl) ?_ | (refine pDr_go hS ?_; clear hS; intro w hS) | refine ⟨trivial, ?_⟩ | refine pN_via (by (intro K; simp (disch := omega) only [go_sem, pN_min, pN_max, w_u32, w_u64, Option.isNone_some, Option.isNone_none]; (try simp only [wrap_u32, wrap_u64]); rfl)) ?_ | refine pA_via (by (intro K; simp (disch := omega) only [go_sem, pN_min, pN_max, w_u32, w_u64, Option.isNone_some, Option.isNone_none]; (try simp only [wrap_u32, wrap_u64]); rfl)) ?_ | fail)
    refine pA_slh hS l.length rfl (by simp) (by simp) fun s5 hp5 => ?_
    have hr5 : ∀ (L : List HA) [Rds cd_uint8 L s (l ++ [153])], Rds cd_uint8 L s5 l := fun L h => by
      have := hp5.rd L h
      rwa [List.take_left' rfl] at this
    simp only [bne_self_eq_false]
    repeat' (first | (refine pc_pithlaw08_known (known_ok hS ?_); clear hS; intro w hS) | ((first | refine pA_neq_s ?_ ?_ | refine pA_neq_ss ?_ ?_) <;> intro hc <;> try (exfalso; first | omega | exact hc rfl | exact hc (by assumption) | exact absurd hc (by assumption))) | refine pIf_t ?_ | refine pIf_f ?_ | refine gA_go (by rfl) ?_ | refine pL_ld1 ha hS ?_ | refine pA_ixk hS _ (by first | rfl | (exact (Int.toNat_of_nonneg (by omega)).symm)) (by first | rfl | omega | simpa only [go_sem] using True.intro | (simp only [go_sem]; omega)) (by assumption) fun a ha hel => ?_ | refine pL_st hS (by first | rfl | omega | simpa only [go_sem] using True.intro | (simp only [go_sem]; omega)) ?_ | refine pN_via (by (intro K; simp (disch := omega) only [go_sem, pN_min, pN_max, w_u32, w_u64, Option.isNone_some, Option.isNone_none]; (try simp only [wrap_u32, wrap_u64]); rfl)) ?_ | refine pA_via (by (intro K; simp (disch := omega) only [go_sem, pN_min, pN_max, w_u32, w_u64, Option.isNone_some, Option.isNone_none]; (try simp only [wrap_u32, wrap_u64]); rfl)) ?_ | fail)
    exact ⟨rfl, hS.to⟩
  · refine pc_rcdec_New (DNew_in hS (by omega) hst fun d w hS => ?_)
    repeat' (first | refine pc_pithlaw08_num (num_ok _ (by omega) ?_) | (refine pc_pithref08_New (R8New_in hS (by omega) hst ?_); clear hS; intro r w hS) | (refine pA_neq_s ?_ ?_ <;> intro hc <;> try (exfalso; first | omega | exact hc rfl | exact hc (by assumption) | exact absurd hc (by assumption))) | refine gA_go (by rfl) ?_ | (refine pDr_go hS ?_; clear hS; intro w hS) | refine ⟨trivial, ?_⟩ | refine pN_via (by (intro K; simp (disch := omega) only [go_sem, pN_min, pN_max, w_u32, w_u64, Option.isNone_some, Option.isNone_none]; (try simp only [wrap_u32, wrap_u64]); rfl)) ?_ | refine pA_via (by (intro K; simp (disch := omega) only [go_sem, pN_min, pN_max, w_u32, w_u64, Option.isNone_some, Option.isNone_none]; (try simp only [wrap_u32, wrap_u64]); rfl)) ?_ | fail)
    refine pA_slh hS l.length rfl (by simp) (by simp) fun s5 hp5 => ?_
    have hr5 : ∀ (L : List HA) [Rds cd_uint8 L s (l ++ [153])], Rds cd_uint8 L s5 l := fun L h => by
      have := hp5.rd L h
      rwa [List.take_left' rfl] at this
    simp only [bne_self_eq_false]
    have hto := D.start_ok hst
    repeat' (first | ((first | refine pA_neq_s ?_ ?_ | refine pA_neq_ss ?_ ?_) <;> intro hc <;> try (exfalso; first | omega | exact hc rfl | exact hc (by assumption) | exact absurd hc (by assumption))) | refine pIf_f ?_ | refine gA_go (by rfl) ?_ | refine pL_ld1 ha hS ?_ | refine pA_ixk hS _ (by first | rfl | (exact (Int.toNat_of_nonneg (by omega)).symm)) (by first | rfl | omega | simpa only [go_sem] using True.intro | (simp only [go_sem]; omega)) (by assumption) fun a ha hel => ?_ | refine pL_st hS (by first | rfl | omega | simpa only [go_sem] using True.intro | (simp only [go_sem]; omega)) ?_ | refine pN_via (by (intro K; simp (disch := omega) only [go_sem, pN_min, pN_max, w_u32, w_u64, Option.isNone_some, Option.isNone_none]; (try simp only [wrap_u32, wrap_u64]); rfl)) ?_ | refine pA_via (by (intro K; simp (disch := omega) only [go_sem, pN_min, pN_max, w_u32, w_u64, Option.isNone_some, Option.isNone_none]; (try simp only [wrap_u32, wrap_u64]); rfl)) ?_ | fail)
    have hS : Sat W w [rows cd_uint8 s (l ++ [153]), Dec d t, RDec r t, old W] := hS.to
    rw [hlen]
    refine ⟨fun v w => ∃ (i : Nat) (l' : List UInt8), v = .int .i64 i ∧ i ≤ l.length + 1 ∧ l'.length = l.length + 1 ∧ Sat W w [rows cd_uint8 s l', Dec d t, RDec r t, old W], fun v _ => l.length + 1 - (RowKit.intOf v).toNat, ⟨0, _, rfl, Nat.zero_le _, hlen, hS⟩, ?_⟩
    clear hS
    rintro _ _ w ⟨i, l', rfl, hi, hl', hS⟩
    by_cases hlt : i < l.length + 1
    · repeat' (first | (refine pN_lss_s ?_ ?_ <;> intro hc <;> try (exfalso; omega)) | refine pIf_t ?_ | refine pN_ix hS _ (by first | rfl | (exact (Int.toNat_of_nonneg (by omega)).symm)) (by first | rfl | omega | simpa only [go_sem] using True.intro | (simp only [go_sem]; omega)) (by first | omega | (simp only [go_sem]; omega)) fun a x hx ha hel => ?_ | (refine pN_sr hel hS (by rfl) (by rfl) (by first | omega | (simp only [go_sem]; omega)) ?_; clear hS; intro w hS) | refine pN_via (by (intro K; simp (disch := omega) only [go_sem, pN_min, pN_max, w_u32, w_u64, Option.isNone_some, Option.isNone_none]; (try simp only [wrap_u32, wrap_u64]); rfl)) ?_ | fail)
      exact ⟨⟨i + 1, _, rfl, by omega, by rw [List.length_set]; exact hl', hS⟩, by simp [RowKit.intOf] <;> omega⟩
    repeat' (first | refine pc_pithlaw08_num (num_ok _ (by omega) ?_) | (refine pc_prob_New (New_ok hS n (by omega) (by omega) ?_); clear hS; intro p w hS) | (refine pc_pithref06_New (RNew_ok hS n (by omega) (by omega) ?_); clear hS; intro q w hS) | (refine pN_lss_s ?_ ?_ <;> intro hc <;> try (exfalso; omega)) | (refine pN_neq_s ?_ ?_ <;> intro hc <;> try (exfalso; first | omega | exact hc rfl | exact hc (by assumption) | exact absurd hc (by assumption))) | refine pIf_f ?_ | refine pGd_go (by rfl) ?_ | refine pN_via (by (intro K; simp (disch := omega) only [go_sem, pN_min, pN_max, w_u32, w_u64, Option.isNone_some, Option.isNone_none]; (try simp only [wrap_u32, wrap_u64]); rfl)) ?_ | fail)
    rw [Int.toNat_natCast] at hS
    have hinv : EInv W d r p q n l w := ⟨t, List.replicate n 1024, hto.1, hto.2.1, B.Fine.new n, List.length_replicate, hS.to⟩
    clear hS
    refine ⟨fun v w => ∃ i : Nat, v = .int .i64 i ∧ i ≤ x2.2.length ∧ EInv W d r p q n l w, fun v _ => x2.2.length - (RowKit.intOf v).toNat, ⟨0, rfl, Nat.zero_le _, hinv⟩, ?_⟩
    rintro _ _ w ⟨i, rfl, hi, st, ps, ho, hsb, hf, hpn, hS⟩
    have hbl : st.b.length ≤ 140737488355328 := by rw [hsb]; omega
    by_cases hlt : i < x2.2.length
    · obtain ⟨y, hy⟩ : ∃ y, x2.2[i]? = some y := ⟨x2.2[i]'hlt, by simp⟩
      obtain ⟨dir, ai, an, av⟩ := y
      repeat' (first | (refine pN_lss_s ?_ ?_ <;> intro hc <;> try (exfalso; omega)) | refine pIf_t ?_ | fail)
      refine ⟨fun w => EInv W d r p q n l w, ?_, ?_⟩
      rotate_left 1
      · clear hS
        rintro _ w hinv
        repeat' (first | refine pN_via (by (intro K; simp (disch := omega) only [go_sem, pN_min, pN_max, w_u32, w_u64, Option.isNone_some, Option.isNone_none]; (try simp only [wrap_u32, wrap_u64]); rfl)) ?_ | fail)
        exact ⟨⟨i + 1, rfl, by omega, hinv⟩, by simp [RowKit.intOf] <;> omega⟩
      repeat' (first | refine pN_ld_at ha hS (by rfl) ?_ | (refine pN_sa hS (by rfl) (by rfl) (by rfl) ?_; clear hS; intro w hS; try dsimp only at hS) | (refine pN_nz hS ?_; clear hS; intro a w hS) | refine pN_ixk hS _ (by first | rfl | (exact (Int.toNat_of_nonneg (by omega)).symm)) (by first | rfl | omega | simpa only [go_sem] using True.intro | (simp only [go_sem]; omega)) (by assumption) fun a ha hel => ?_ | fail)
      refine ⟨fun w => EInv W d r p q n l w, ?_, ?_⟩
      · rcases dir with _ | _
        · have he := D.bitQ_e st ps ai
          have hk := D.bitQ_ok ho hf ai
          repeat' (first | refine pc_pithlaw08_num (num_ok _ he ?_) | (refine pc_rcdec_Decoder_Bit (DBit_q (hS.fd2 (Dec d) (PSet p)) ho hf (by omega) ai ?_); clear hS; intro w hS) | (refine pc_pithref08_Decoder_Bit (R8Bit_q (hS.fd2 (RDec r) (RSet q)) ho hf hbl ai ?_); clear hS; intro w hS) | (refine pN_neq_s ?_ ?_ <;> intro hc <;> try (exfalso; first | omega | exact hc rfl | exact hc (by assumption) | exact absurd hc (by assumption))) | refine pIf_f ?_ | refine pGd_go (by rfl) ?_ | refine pN_l hS (by first | rfl | assumption) ?_ | refine pN_via (by (intro K; simp (disch := omega) only [go_sem, pN_min, pN_max, w_u32, w_u64, Option.isNone_some, Option.isNone_none]; (try simp only [wrap_u32, wrap_u64]); rfl)) ?_ | fail)
          exact ⟨_, _, hk.1, hk.2.1.trans hsb, hk.2.2.1, hk.2.2.2.trans hpn, hS.to⟩
        · have he := D.dirQ_e st an
          have hk := D.dirQ_ok ho an
          repeat' (first | refine pc_pithlaw08_num (num_ok _ he ?_) | (refine pc_rcdec_Decoder_Direct (DDirect_q (hS.fd (Dec d)) ho (by omega) an ?_); clear hS; intro w hS) | (refine pc_pithref08_Decoder_Direct (R8Direct_q (hS.fd (RDec r)) ho hbl an ?_); clear hS; intro w hS) | (refine pN_neq_s ?_ ?_ <;> intro hc <;> try (exfalso; first | omega | exact hc rfl | exact hc (by assumption) | exact absurd hc (by assumption))) | refine pIf_t ?_ | refine pIf_f ?_ | refine pGd_go (by rfl) ?_ | refine pN_l hS (by first | rfl | assumption) ?_ | refine pN_via (by (intro K; simp (disch := omega) only [go_sem, pN_min, pN_max, w_u32, w_u64, Option.isNone_some, Option.isNone_none]; (try simp only [wrap_u32, wrap_u64]); rfl)) ?_ | fail)
          exact ⟨_, _, hk.1, hk.2.trans hsb, hf, hpn, hS.to⟩
      clear hS
      rintro _ w ⟨st2, ps2, ho2, hsb2, hf2, hpn2, hS⟩
      repeat' (first | (refine pc_rcdec_Decoder_Used (Used_ok (hS.fd (Dec d)) ?_); clear hS; intro w hS) | (refine pc_pithref08_Decoder_Used (R8Used_ok (hS.fd (RDec r)) ?_); clear hS; intro w hS) | (refine pc_rcdec_Decoder_Done (Done_ok (hS.fd (Dec d)) ?_); clear hS; intro w hS) | (refine pc_pithref08_Decoder_Done (R8Done_ok (hS.fd (RDec r)) ?_); clear hS; intro w hS) | (refine pN_neq_s ?_ ?_ <;> intro hc <;> try (exfalso; first | omega | exact hc rfl | exact hc (by assumption) | exact absurd hc (by assumption))) | refine pGd_go (by rfl) ?_ | refine pN_via (by (intro K; simp (disch := omega) only [go_sem, pN_min, pN_max, w_u32, w_u64, Option.isNone_some, Option.isNone_none]; (try simp only [wrap_u32, wrap_u64]); rfl)) ?_ | fail)
      rw [bne_self_eq_false]
      exact pIf_f ⟨st2, ps2, ho2, hsb2, hf2, hpn2, hS.to⟩
    · repeat' (first | (refine pc_pithlaw08_alike (alike8_ok (hS.fd2 (PSet p) (RSet q)) n (by omega) (by omega) ?_); clear hS; intro w hS) | (refine pc_pithlaw08_known (known_ok hS ?_); clear hS; intro w hS) | (refine pN_lss_s ?_ ?_ <;> intro hc <;> try (exfalso; omega)) | refine pIf_f ?_ | refine pGd_go (by rfl) ?_ | refine pN_via (by (intro K; simp (disch := omega) only [go_sem, pN_min, pN_max, w_u32, w_u64, Option.isNone_some, Option.isNone_none]; (try simp only [wrap_u32, wrap_u64]); rfl)) ?_ | fail)
      exact ⟨rfl, hS.to⟩

end Go.Proofs.Ytoejaggkedlfmaa

namespace Go.Proofs.Ytoejaggkedlfmaa
open Go
set_option linter.unusedSimpArgs false
set_option linter.unnecessarySimpa false
set_option linter.unusedSectionVars false
set_option linter.unusedVariables false

namespace D
/-- A decoder and a row. -/
abbrev A := S × List Int
def ask (a : A) (q : T_pithlaw08_Ask) : Option (A × Int) :=
  if q.Direct = true then (if (a.1.dirQ q.N).2.2 = 0 then some (((a.1.dirQ q.N).1, a.2), (a.1.dirQ q.N).2.1) else none)
  else (if (a.1.bitQ a.2 q.I).2.2.2 = 0 then some (((a.1.bitQ a.2 q.I).1, (a.1.bitQ a.2 q.I).2.1), (a.1.bitQ a.2 q.I).2.2.1) else none)
/-- The answers up to the first refusal; what is behind them. -/
def run (a : A) : List T_pithlaw08_Ask → List Int × A
  | [] => ([], a)
  | q :: qs => match ask a q with
    | none => ([], a)
    | some (z, v) => (v :: (run z qs).1, (run z qs).2)

theorem dirQ_no {st : S} {n : Int} (h : (st.dirQ n).2.2 ≠ 0) : (st.dirQ n).1 = st := by
  unfold S.dirQ at *
  split
  · rename_i hn
    simp only [if_pos hn] at h
    split
    · rename_i t v e
      simp only [e] at h
      exact absurd rfl h
    · rfl
  · rfl
theorem bitQ_no {st : S} {l : List Int} {i : Int} (h : (st.bitQ l i).2.2.2 ≠ 0) : (st.bitQ l i).1 = st ∧ (st.bitQ l i).2.1 = l := by
  unfold S.bitQ at *
  split
  · rename_i hn
    simp only [if_pos hn] at h
    split
    · rename_i t v e
      simp only [e] at h
      exact absurd rfl h
    · exact ⟨rfl, rfl⟩
  · exact ⟨rfl, rfl⟩
theorem bitQ_v {st : S} {l : List Int} {i : Int} : (st.bitQ l i).2.2.1 = 0 ∨ (st.bitQ l i).2.2.1 = 1 := by
  unfold S.bitQ
  split
  · split
    · rename_i t v e
      unfold S.bit at e
      split at e
      · cases e; exact bitAt_01 _ _
      · cases e
    · exact .inl rfl
  · exact .inl rfl

structure AOk (a : A) : Prop where
  s : Ok a.1
  f : B.Fine a.2
structure Same (z a : A) : Prop where
  b : z.1.b = a.1.b
  n : z.2.length = a.2.length
theorem AOk.ask {a z : A} {q : T_pithlaw08_Ask} {v : Int} (h : AOk a) (e : ask a q = some (z, v)) : AOk z ∧ Same z a := by
  unfold D.ask at e
  split at e
  · split at e
    · cases e
      have := dirQ_ok h.s q.N
      exact ⟨⟨this.1, h.f⟩, ⟨this.2, rfl⟩⟩
    · cases e
  · split at e
    · cases e
      have := bitQ_ok h.s h.f q.I
      exact ⟨⟨this.1, this.2.2.1⟩, ⟨this.2.1, this.2.2.2⟩⟩
    · cases e
theorem AOk.run : ∀ (qs : List T_pithlaw08_Ask) {a : A}, AOk a → AOk (run a qs).2 ∧ Same (run a qs).2 a
  | [], a, h => ⟨h, ⟨rfl, rfl⟩⟩
  | q :: qs, a, h => by
    simp only [D.run]
    split
    · exact ⟨h, ⟨rfl, rfl⟩⟩
    · rename_i z v e
      obtain ⟨h1, h2⟩ := h.ask e
      obtain ⟨h3, h4⟩ := AOk.run qs h1
      exact ⟨h3, ⟨h4.b.trans h2.b, h4.n.trans h2.n⟩⟩
theorem run_len : ∀ (qs : List T_pithlaw08_Ask) (a : A), (run a qs).1.length ≤ qs.length
  | [], a => Nat.le_refl _
  | q :: qs, a => by
    simp only [D.run]
    split
    · exact Nat.zero_le _
    · rename_i z v e
      have := run_len qs z
      simp only [List.length_cons]
      omega
/-- The first question that is not answered is refused by what is behind the answers. -/
theorem run_end : ∀ (qs : List T_pithlaw08_Ask) (a : A) {q : T_pithlaw08_Ask}, qs[(run a qs).1.length]? = some q → ask (run a qs).2 q = none
  | [], a, q, h => by simp at h
  | q0 :: qs, a, q, h => by
    simp only [D.run] at *
    cases e : ask a q0 with
    | none =>
      simp only [e] at h ⊢
      simp at h
      subst h
      exact e
    | some zv =>
      obtain ⟨z, v⟩ := zv
      simp only [e] at h ⊢
      exact run_end qs z (by simpa using h)

/-! A beginning of the bytes -/
structure Sim (n : Nat) (c d : S) : Prop where
  b : c.b = d.b.take n
  k : c.k = d.k
  R : c.R = d.R
  C : c.C = d.C
theorem Sim.widen {n : Nat} {c d t : S} (h : Sim n c d) (e : c.widen = some t) : ∃ t', d.widen = some t' ∧ Sim n t t' := by
  obtain ⟨h1, h2, h3, h4⟩ := h
  unfold S.widen at *
  rw [h3] at e
  split at e
  · rename_i hr
    cases e
    rw [if_pos hr]
    exact ⟨d, rfl, ⟨h1, h2, h3, h4⟩⟩
  · rename_i hr
    rw [if_neg hr]
    cases hx : c.b[c.k]? with
    | none => rw [hx] at e; cases e
    | some x =>
      rw [hx] at e
      cases e
      rw [h1, h2, List.getElem?_take] at hx
      split at hx
      · rw [hx]
        exact ⟨_, rfl, ⟨h1, by simp only [h2], rfl, by simp only [h4]⟩⟩
      · cases hx
theorem Sim.cut {n : Nat} {c d : S} (h : Sim n c d) (x : Int) : Sim n (c.cut x) (d.cut x) := by
  obtain ⟨h1, h2, h3, h4⟩ := h
  unfold S.cut
  rw [h4]
  split
  · exact ⟨h1, h2, rfl, rfl⟩
  · exact ⟨h1, h2, by simp only [h3], rfl⟩
theorem Sim.one {n : Nat} {c d : S} (h : Sim n c d) : Sim n c.one d.one := by
  obtain ⟨h1, h2, h3, h4⟩ := h
  unfold S.one
  rw [h4, h3]
  split
  · exact ⟨h1, h2, rfl, rfl⟩
  · exact ⟨h1, h2, rfl, rfl⟩
theorem Sim.bitAt {n : Nat} {c d : S} (h : Sim n c d) (x : Int) : c.bitAt x = d.bitAt x := by unfold S.bitAt; rw [h.C]
theorem Sim.bit {n : Nat} {c d t : S} {x v : Int} (h : Sim n c d) (e : c.bit x = .ok t v) : ∃ t', d.bit x = .ok t' v ∧ Sim n t t' := by
  unfold S.bit at *
  split at e
  · rename_i t' ht
    cases e
    obtain ⟨t2, h2, h3⟩ := (h.cut x).widen ht
    rw [h2]
    exact ⟨t2, by rw [h.bitAt x], h3⟩
  · cases e
theorem Sim.direct {n : Nat} : ∀ (m : Nat) {c d t : S} {v u : Int}, Sim n c d → c.direct v m = .ok t u → ∃ t', d.direct v m = .ok t' u ∧ Sim n t t'
  | 0, c, d, t, v, u, h, e => by cases e; exact ⟨d, rfl, h⟩
  | m + 1, c, d, t, v, u, h, e => by
    simp only [S.direct] at *
    rw [h.one.R, h.one.C] at e
    split at e
    · cases e
    · rename_i hle
      rw [if_neg hle]
      split at e
      · cases e
      · rename_i t1 ht
        obtain ⟨t2, h2, h3⟩ := h.one.widen ht
        rw [h2]
        rw [h.R, h.bitAt] at e
        exact Sim.direct m h3 e
theorem Sim.ask {n : Nat} {c d z : A} {q : T_pithlaw08_Ask} {v : Int} (h : Sim n c.1 d.1) (hl : c.2 = d.2) (e : ask c q = some (z, v)) : ∃ z', ask d q = some (z', v) ∧ Sim n z.1 z'.1 ∧ z.2 = z'.2 := by
  unfold D.ask at *
  split at e
  · rename_i hd
    rw [if_pos hd]
    split at e
    · rename_i h0
      cases e
      unfold S.dirQ at h0 ⊢
      split at h0
      · rename_i hn
        simp only [if_pos hn]
        cases e1 : c.1.direct 0 q.N.toNat with
        | ok t u =>
          obtain ⟨t', h2, h3⟩ := h.direct _ e1
          simp only [h2, if_true]
          exact ⟨_, rfl, h3, hl⟩
        | no e' =>
          simp only [e1] at h0
          rcases D.direct_e _ _ _ _ e1 with rfl | rfl <;> cases h0
      · cases h0
    · cases e
  · rename_i hd
    rw [if_neg hd]
    split at e
    · rename_i h0
      cases e
      unfold S.bitQ at h0 ⊢
      rw [← hl, ← h.R]
      split at h0
      · rename_i hn
        simp only [if_pos hn]
        cases e1 : c.1.bit (B.bound c.1.R (c.2.getD q.I.toNat 0)) with
        | ok t u =>
          obtain ⟨t', h2, h3⟩ := h.bit e1
          simp only [h2, if_true]
          exact ⟨_, rfl, h3, rfl⟩
        | no e' =>
          simp only [e1] at h0
          subst h0
          unfold S.bit at e1
          split at e1 <;> cases e1
      · cases h0
    · cases e
theorem Sim.run {n : Nat} : ∀ (qs : List T_pithlaw08_Ask) {c d : A}, Sim n c.1 d.1 → c.2 = d.2 → ∃ r, (run d qs).1 = (run c qs).1 ++ r
  | [], c, d, h, hl => ⟨_, rfl⟩
  | q :: qs, c, d, h, hl => by
    simp only [D.run]
    cases e : D.ask c q with
    | none => exact ⟨_, rfl⟩
    | some zv =>
      obtain ⟨z, v⟩ := zv
      obtain ⟨z', e2, h3, h4⟩ := Sim.ask h hl e
      obtain ⟨r, hr⟩ := Sim.run qs h3 h4
      rw [e2]
      exact ⟨r, by simp only [hr, List.cons_append]⟩
/-- The front of a beginning. -/
theorem start_take {b : List UInt8} {n : Nat} (hn : 5 ≤ (b.take n).length) : front (b.take n) 4 = front b 4 ∧ (b.take n)[0]? = b[0]? := by
  rw [List.length_take] at hn
  constructor
  · unfold front
    rw [List.drop_take, List.take_take, Nat.min_eq_left (by omega)]
  · rw [List.getElem?_take, if_pos (by omega)]
theorem start_sim {b : List UInt8} {n : Nat} {t : S} (h : start (b.take n) = .ok t ()) : ∃ t', start b = .ok t' () ∧ Sim n t t' := by
  have hlen : ¬ (b.take n).length < 5 := fun h5 => by rw [start, if_pos h5] at h; cases h
  obtain ⟨h1, h2⟩ := start_take (b := b) (n := n) (by omega)
  have hb : ¬ b.length < 5 := by rw [List.length_take] at hlen; omega
  rw [start, if_neg hlen, h1, h2] at h
  rw [start, if_neg hb]
  split at h
  · cases h
  · rename_i hc
    cases h
    rw [if_neg hc]
    exact ⟨_, rfl, ⟨rfl, rfl, rfl, rfl⟩⟩
theorem start_no {b : List UInt8} {n : Nat} (hlen : ¬ (b.take n).length < 5) {e : Int} (h : start (b.take n) = .no e) : start b = .no e ∧ e = 2 := by
  obtain ⟨h1, h2⟩ := start_take (b := b) (n := n) (by omega)
  have hb : ¬ b.length < 5 := by rw [List.length_take] at hlen; omega
  rw [start, if_neg hlen, h1, h2] at h
  rw [start, if_neg hb]
  split at h
  · rename_i hc
    cases h
    rw [if_pos hc]
    exact ⟨rfl, rfl⟩
  · cases h
end D

end Go.Proofs.Ytoejaggkedlfmaa

namespace Go.Proofs.Ytoejaggkedlfmaa
open Go
set_option linter.unusedSimpArgs false
set_option linter.unnecessarySimpa false
set_option linter.unusedSectionVars false
set_option linter.unusedVariables false

namespace D
/-- The number that is told at the end lies in the encoder's range. -/
structure In (s f : R.S) : Prop where
  k : s.k ≤ f.k
  lo : s.N * 256 ^ (f.k - s.k) ≤ f.N
  hi : f.N < (s.N + s.R) * 256 ^ (f.k - s.k)
theorem In.self {f : R.S} (h : 0 < f.R) : In f f := ⟨Nat.le_refl _, by simp, by simp; omega⟩
theorem In.wide {s f : R.S} (h : In ⟨s.N * 256, s.R * 256, s.k + 1⟩ f) : In s f := by
  obtain ⟨h1, h2, h3⟩ := h
  have h1 : s.k + 1 ≤ f.k := h1
  have e : f.k - s.k = (f.k - (s.k + 1)) + 1 := by omega
  have e2 : ∀ x : Int, x * 256 ^ (f.k - s.k) = x * 256 * 256 ^ (f.k - (s.k + 1)) := fun x => by rw [e, Int.pow_succ, Int.mul_comm (256 ^ _) 256, ← Int.mul_assoc]
  refine ⟨by omega, by rw [e2]; exact h2, ?_⟩
  rw [e2, Int.add_mul]
  exact h3
theorem In.widen {s f : R.S} (h0 : 65536 ≤ s.R) (h : In s.widen f) : In s f := by
  by_cases hr : s.R < 16777216
  · rw [R.S.widen_go (by omega) hr] at h
    rw [R.S.widen_no (show ¬ s.R * 256 < 16777216 by omega)] at h
    exact h.wide
  · rwa [R.S.widen_no hr] at h
/-- What a decoder of so many bytes sees of the number. -/
def seen (f : R.S) (k : Nat) : Int := f.N / 256 ^ (f.k - k)
theorem In.seen {s f : R.S} (h : In s f) : s.N ≤ seen f s.k ∧ seen f s.k < s.N + s.R := by
  have p : (0 : Int) < 256 ^ (f.k - s.k) := Int.pow_pos (by omega)
  exact ⟨(Int.le_ediv_iff_mul_le p).2 h.lo, (Int.ediv_lt_iff_lt_mul p).2 h.hi⟩

/-- The bytes begin with the encoder's. -/
structure Begins (b : List UInt8) (f : R.S) : Prop where
  len : f.k + 5 ≤ b.length
  num : ∀ i, i ≤ f.k + 5 → R.num (b.take i) = f.N / 256 ^ (f.k + 5 - i)
theorem Begins.of {f : R.S} (h : R.Ok f) (more : List UInt8) : Begins (f.bytes ++ more) f := by
  have hl : f.bytes.length = f.k + 5 := R.digits_length _ _
  refine ⟨by rw [List.length_append]; omega, fun i hi => ?_⟩
  rw [List.take_append_of_le_length (by omega)]
  have h1 : R.num f.bytes = f.N := by
    rw [R.S.bytes, R.num_digits]
    have h5 := h.top
    have h6 := h.n0
    have h7 := h.r0
    have e : (256 : Int) ^ (f.k + 5) = 256 * (4294967296 * 256 ^ f.k) := by
      rw [Int.pow_add, show (256 : Int) ^ 5 = 256 * 4294967296 from by decide, Int.mul_comm, Int.mul_assoc]
    exact Int.emod_eq_of_lt h6 (by rw [e]; omega)
  have h2 := R.num_append (f.bytes.take i) (f.bytes.drop i)
  rw [List.take_append_drop, h1, List.length_drop, hl] at h2
  have h3 := R.num_nonneg (f.bytes.drop i)
  have h4 := R.num_lt (f.bytes.drop i)
  rw [List.length_drop, hl] at h4
  have p : (0 : Int) < 256 ^ (f.k + 5 - i) := Int.pow_pos (by omega)
  rw [h2, Int.add_comm, Int.add_mul_ediv_right _ _ (by omega), Int.ediv_eq_zero_of_lt h3 h4, Int.zero_add]
theorem Begins.seen {b : List UInt8} {f : R.S} (h : Begins b f) {k : Nat} (hk : k ≤ f.k) : R.num (b.take (k + 5)) = D.seen f k := by
  rw [h.num _ (by omega), D.seen, show f.k + 5 - (k + 5) = f.k - k from by omega]

/-- A decoder beside an encoder. -/
structure Fol (b : List UInt8) (f s : R.S) (d : S) : Prop where
  b : d.b = b
  k : d.k = s.k + 5
  R : d.R = s.R
  C : d.C = D.seen f s.k - s.N

theorem Fol.widen {b : List UInt8} {f s : R.S} {d : S} (hb : Begins b f) (h : Fol b f s d) (h0 : 65536 ≤ s.R) (hi : In s.widen f) : ∃ t, d.widen = some t ∧ Fol b f s.widen t := by
  obtain ⟨h1, h2, h3, h4⟩ := h
  by_cases hr : s.R < 16777216
  · have e1 : s.widen = ⟨s.N * 256, s.R * 256, s.k + 1⟩ := by
      rw [R.S.widen_go (by omega) hr, R.S.widen_no (show ¬ s.R * 256 < 16777216 by omega)]
    rw [e1] at hi ⊢
    have hk : s.k + 1 ≤ f.k := hi.k
    have hl := hb.len
    obtain ⟨x, hx⟩ : ∃ x, b[s.k + 5]? = some x := ⟨b[s.k + 5]'(by omega), by simp⟩
    have e2 := hb.seen (k := s.k) (by omega)
    have e3 := hb.seen (k := s.k + 1) hk
    rw [show s.k + 1 + 5 = (s.k + 5) + 1 from by omega, List.take_add_one, hx, Option.toList_some, R.num_snoc, e2] at e3
    refine ⟨⟨d.b, d.k + 1, d.R * 256, d.C * 256 + x.toNat⟩, ?_, ⟨h1, (show d.k + 1 = s.k + 1 + 5 by omega), by simp only [h3], ?_⟩⟩
    · rw [S.widen, if_neg (by omega), h1, h2, hx]
    · simp only [h4, ← e3]
      omega
  · rw [R.S.widen_no hr] at hi ⊢
    exact ⟨d, by rw [S.widen, if_pos (by omega)], ⟨h1, h2, h3, h4⟩⟩

/-- One bit by a probability. -/
theorem Fol.bit {b : List UInt8} {f s : R.S} {d : S} (hb : Begins b f) (h : Fol b f s d) {c : Int} (bit : Int) (hbit : bit = 0 ∨ bit = 1) (c0 : 65536 ≤ c) (c1 : 65536 ≤ s.R - c) (hi : In (s.cut c bit) f) :
    In s f ∧ ∃ t, d.bit c = .ok t bit ∧ Fol b f (s.cut c bit) t := by
  obtain ⟨h1, h2, h3, h4⟩ := h
  rcases hbit with rfl | rfl
  · rw [R.S.cut, if_pos rfl] at hi ⊢
    have hi2 := In.widen (s := ⟨s.N, c, s.k⟩) (by simp only; omega) hi
    have hs := hi2.seen
    simp only at hs
    have p : (0 : Int) < 256 ^ (f.k - s.k) := Int.pow_pos (by omega)
    have his : In s f := ⟨hi2.k, hi2.lo, Int.lt_of_lt_of_le hi2.hi (Int.mul_le_mul_of_nonneg_right (by simp only; omega) (by simp only; omega))⟩
    have hlt : d.C < c := by omega
    have hcut : d.cut c = ⟨d.b, d.k, c, d.C⟩ := by rw [S.cut, if_pos hlt]
    have hf : Fol b f ⟨s.N, c, s.k⟩ (d.cut c) := by rw [hcut]; exact ⟨h1, h2, rfl, h4⟩
    obtain ⟨t, ht, hft⟩ := hf.widen hb (by simp only; omega) hi
    refine ⟨his, t, ?_, hft⟩
    rw [S.bit, ht, S.bitAt, if_pos hlt]
  · rw [R.S.cut, if_neg (by omega)] at hi ⊢
    have hi2 := In.widen (s := ⟨s.N + c, s.R - c, s.k⟩) (by simp only; omega) hi
    have hs := hi2.seen
    simp only at hs
    have p : (0 : Int) < 256 ^ (f.k - s.k) := Int.pow_pos (by omega)
    have his : In s f := by
      refine ⟨hi2.k, Int.le_trans (Int.mul_le_mul_of_nonneg_right (show s.N ≤ s.N + c by omega) (by omega)) hi2.lo, ?_⟩
      have := hi2.hi
      simp only at this
      rwa [show s.N + c + (s.R - c) = s.N + s.R from by omega] at this
    have hge : ¬ d.C < c := by omega
    have hcut : d.cut c = ⟨d.b, d.k, d.R - c, d.C - c⟩ := by rw [S.cut, if_neg hge]
    have hf : Fol b f ⟨s.N + c, s.R - c, s.k⟩ (d.cut c) := by rw [hcut]; exact ⟨h1, h2, by simp only [h3], by simp only [h4]; omega⟩
    obtain ⟨t, ht, hft⟩ := hf.widen hb (by simp only; omega) hi
    refine ⟨his, t, ?_, hft⟩
    rw [S.bit, ht, S.bitAt, if_neg hge]
end D

end Go.Proofs.Ytoejaggkedlfmaa

namespace Go.Proofs.Ytoejaggkedlfmaa
open Go
set_option linter.unusedSimpArgs false
set_option linter.unnecessarySimpa false
set_option linter.unusedSectionVars false
set_option linter.unusedVariables false

namespace D
theorem Fol.at_ (b : List UInt8) (f s : R.S) : Fol b f s ⟨b, s.k + 5, s.R, seen f s.k - s.N⟩ := ⟨rfl, rfl, rfl, rfl⟩

/-- One bit without a probability. -/
theorem Fol.one {b : List UInt8} {f s : R.S} {d : S} (hb : Begins b f) (h : Fol b f s d) (hr : 16777216 ≤ s.R) {x : Int} (hx : x = 0 ∨ x = 1) (hi : In (s.one x) f) :
    In s f ∧ d.one.C < d.one.R ∧ d.bitAt (d.R / 2) = x ∧ ∃ t, d.one.widen = some t ∧ Fol b f (s.one x) t := by
  obtain ⟨h1, h2, h3, h4⟩ := h
  rcases hx with rfl | rfl
  · rw [R.S.one, if_neg (by omega)] at hi ⊢
    have hi2 := In.widen (s := ⟨s.N, s.R / 2, s.k⟩) (by simp only; omega) hi
    have hs := hi2.seen
    simp only at hs
    have p : (0 : Int) < 256 ^ (f.k - s.k) := Int.pow_pos (by omega)
    have his : In s f := ⟨hi2.k, hi2.lo, Int.lt_of_lt_of_le hi2.hi (Int.mul_le_mul_of_nonneg_right (by simp only; omega) (by simp only; omega))⟩
    have hlt : d.C < d.R / 2 := by rw [h3]; omega
    have ho : d.one = ⟨d.b, d.k, d.R / 2, d.C⟩ := by rw [S.one, if_pos hlt]
    have hf : Fol b f ⟨s.N, s.R / 2, s.k⟩ d.one := by rw [ho]; exact ⟨h1, h2, by simp only [h3], h4⟩
    obtain ⟨t, ht, hft⟩ := hf.widen hb (by simp only; omega) hi
    refine ⟨his, by rw [ho]; exact hlt, by rw [S.bitAt, if_pos hlt], t, ht, hft⟩
  · rw [R.S.one, if_pos rfl] at hi ⊢
    have hi2 := In.widen (s := ⟨s.N + s.R / 2, s.R / 2, s.k⟩) (by simp only; omega) hi
    have hs := hi2.seen
    simp only at hs
    have p : (0 : Int) < 256 ^ (f.k - s.k) := Int.pow_pos (by omega)
    have his : In s f := by
      refine ⟨hi2.k, Int.le_trans (Int.mul_le_mul_of_nonneg_right (show s.N ≤ s.N + s.R / 2 by omega) (by omega)) hi2.lo, Int.lt_of_lt_of_le hi2.hi (Int.mul_le_mul_of_nonneg_right (by simp only; omega) (by simp only; omega))⟩
    have hge : ¬ d.C < d.R / 2 := by rw [h3]; omega
    have ho : d.one = ⟨d.b, d.k, d.R / 2, d.C - d.R / 2⟩ := by rw [S.one, if_neg hge]
    have hf : Fol b f ⟨s.N + s.R / 2, s.R / 2, s.k⟩ d.one := by rw [ho]; exact ⟨h1, h2, by simp only [h3], by simp only [h4, h3]; omega⟩
    obtain ⟨t, ht, hft⟩ := hf.widen hb (by simp only; omega) hi
    refine ⟨his, by rw [ho, h3]; simp only [h4]; omega, by rw [S.bitAt, if_neg hge], t, ht, hft⟩

theorem bits_top (v : Int) (n : Nat) : v % 2 ^ (n + 1) = v / 2 ^ n % 2 * 2 ^ n + v % 2 ^ n := by
  rw [Int.pow_succ]
  have p : (0 : Int) < 2 ^ n := Int.pow_pos (by omega)
  generalize (2 : Int) ^ n = q at p
  have h1 := Int.emod_add_mul_ediv v q
  have h2 := Int.emod_add_mul_ediv (v / q) 2
  have h3 := Int.emod_add_mul_ediv v (q * 2)
  have h4 : v / q / 2 = v / (q * 2) := by rw [Int.ediv_ediv_of_nonneg (by omega)]
  rw [h4] at h2
  generalize v / (q * 2) = d at h2 h3
  generalize v / q = c at h1 h2 ⊢
  generalize c % 2 = e at h2 ⊢
  grind
theorem Fol.direct {b : List UInt8} {f : R.S} (hb : Begins b f) (v : Int) : ∀ (n : Nat) {s : R.S} {d : S} (u : Int), R.Ok s → Fol b f s d → In (s.direct v n) f →
    In s f ∧ ∃ t, d.direct u n = .ok t (u * 2 ^ n + v % 2 ^ n) ∧ Fol b f (s.direct v n) t
  | 0, s, d, u, ho, h, hi => ⟨hi, d, by simp [S.direct, Int.emod_one], h⟩
  | n + 1, s, d, u, ho, h, hi => by
    simp only [R.S.direct] at hi ⊢
    obtain ⟨hi2, _⟩ := Fol.direct hb v n (s := s.one (v / 2 ^ n % 2)) 0 (ho.one _) (Fol.at_ b f _) hi
    obtain ⟨h1, h2, h3, t, h4, h5⟩ := h.one hb ho.r0 (by omega) hi2
    obtain ⟨_, t2, h6, h7⟩ := Fol.direct hb v n (2 * u + v / 2 ^ n % 2) (ho.one _) h5 hi
    refine ⟨h1, t2, ?_, h7⟩
    rw [S.direct, if_neg (by omega), h4, h3]
    simp only [h6]
    rw [bits_top, Int.pow_succ]
    congr 1
    grind
end D

namespace R
/-- One question encoded. -/
def TS.ask (a : TS) (q : T_pithlaw08_Ask) : TS := if q.Direct = true then ⟨a.s.direct q.V q.N.toNat, a.l⟩ else a.bit q.I (q.V % 2)
/-- May it be asked of a row of so many? -/
def may (n : Nat) (q : T_pithlaw08_Ask) : Bool := if q.Direct = true then decide (0 ≤ q.N ∧ q.N ≤ 32) else decide (0 ≤ q.I ∧ q.I < n)
def told (q : T_pithlaw08_Ask) : Int := if q.Direct = true then q.V % 2 ^ q.N.toNat else q.V % 2
def TS.run (a : TS) : List T_pithlaw08_Ask → TS
  | [] => a
  | q :: qs => (a.ask q).run qs
theorem TS.ask_len (a : TS) (q : T_pithlaw08_Ask) : (a.ask q).l.length = a.l.length := by
  unfold TS.ask; split
  · rfl
  · exact TS.bit_len _ _ _
theorem TS.run_len : ∀ (qs : List T_pithlaw08_Ask) (a : TS), (a.run qs).l.length = a.l.length
  | [], a => rfl
  | q :: qs, a => by rw [TS.run, TS.run_len qs, TS.ask_len]
theorem TS.run_snoc : ∀ (qs : List T_pithlaw08_Ask) (a : TS) (q : T_pithlaw08_Ask), a.run (qs ++ [q]) = (a.run qs).ask q
  | [], a, q => rfl
  | q0 :: qs, a, q => by simp only [List.cons_append, TS.run, TS.run_snoc qs]

theorem one_k2 {s : S} (h : Ok s) (x y : Int) : ((s.one x).one y).k ≤ s.k + 1 := by
  have hr := h.r0
  have hr1 := h.r1
  have key : ∀ z : S, z.k ≤ s.k + 1 → 33554432 ≤ z.R → (z.one y).k ≤ s.k + 1 := fun z hz hzr => by
    unfold S.one
    split
    · rw [S.widen_no (by simp only; omega)]; exact hz
    · rw [S.widen_no (by simp only; omega)]; exact hz
  by_cases c : s.R / 2 < 16777216
  · refine key _ (one_k h x) ?_
    unfold S.one
    split
    · rw [S.widen_go (by simp only; omega) c, S.widen_no (by simp only; omega)]; simp only; omega
    · rw [S.widen_go (by simp only; omega) c, S.widen_no (by simp only; omega)]; simp only; omega
  · have e : (s.one x).k = s.k := by
      unfold S.one
      split
      · rw [S.widen_no (by simp only; omega)]
      · rw [S.widen_no (by simp only; omega)]
    have := one_k (h.one x) y
    omega
theorem direct_k2 (v : Int) : ∀ (n : Nat) {s : S}, Ok s → (s.direct v n).k ≤ s.k + (n + 1) / 2
  | 0, s, h => by simp [S.direct]
  | 1, s, h => by simp only [S.direct]; exact one_k h _
  | n + 2, s, h => by
    have := direct_k2 v n (s := (s.one (v / 2 ^ (n + 1) % 2)).one (v / 2 ^ n % 2)) ((h.one _).one _)
    have h2 := one_k2 h (v / 2 ^ (n + 1) % 2) (v / 2 ^ n % 2)
    simp only [S.direct]
    omega
theorem bit_mid {a : TS} (h : a.Ok) {i : Int} (h0 : 0 ≤ i) (h1 : i < a.l.length) : 65536 ≤ B.bound a.s.R (a.l.getD i.toNat 0) ∧ 65536 ≤ a.s.R - B.bound a.s.R (a.l.getD i.toNat 0) := by
  have hx : a.l[i.toNat]? = some (a.l.getD i.toNat 0) := by
    rw [List.getD_eq_getElem?_getD, List.getElem?_eq_getElem (show i.toNat < a.l.length by omega)]; rfl
  have hp := h.f.get hx
  exact D.bound_mid h.s.r0 hp.1 hp.2
theorem TS.Ok.ask {a : TS} (h : a.Ok) {q : T_pithlaw08_Ask} (hm : may a.l.length q = true) : (a.ask q).Ok ∧ (a.ask q).s.k ≤ a.s.k + 16 := by
  unfold TS.ask
  unfold may at hm
  split
  · rename_i hd
    rw [if_pos hd] at hm
    have hm := of_decide_eq_true hm
    have := direct_k2 q.V q.N.toNat h.s
    exact ⟨⟨Ok.direct _ _ h.s, h.f⟩, by simp only; omega⟩
  · rename_i hd
    rw [if_neg hd] at hm
    have hm := of_decide_eq_true hm
    obtain ⟨h1, h2⟩ := h.bit hm.1 hm.2 (q.V % 2)
    exact ⟨h1, by omega⟩
theorem TS.Ok.run : ∀ (qs : List T_pithlaw08_Ask) {a : TS}, a.Ok → (∀ q ∈ qs, may a.l.length q = true) → (a.run qs).Ok ∧ (a.run qs).s.k ≤ a.s.k + 16 * qs.length
  | [], a, h, _ => ⟨h, Nat.le_refl _⟩
  | q :: qs, a, h, hm => by
    obtain ⟨h1, h2⟩ := h.ask (hm q List.mem_cons_self)
    obtain ⟨h3, h4⟩ := TS.Ok.run qs h1 fun q' hq => by rw [TS.ask_len]; exact hm q' (List.mem_cons_of_mem _ hq)
    exact ⟨h3, by rw [TS.run, List.length_cons]; omega⟩
end R

namespace D
theorem Fol.ask {b : List UInt8} {f : R.S} (hb : Begins b f) {a : R.TS} {d : S} (h : Fol b f a.s d) (ho : a.Ok) {q : T_pithlaw08_Ask} (hm : R.may a.l.length q = true) (hi : In (a.ask q).s f) :
    In a.s f ∧ ∃ t, D.ask (d, a.l) q = some ((t, (a.ask q).l), R.told q) ∧ Fol b f (a.ask q).s t := by
  unfold R.TS.ask at hi ⊢
  unfold R.may at hm
  unfold D.ask R.told
  split at hm
  · rename_i hd
    have hm := of_decide_eq_true hm
    simp only [if_pos hd] at hi ⊢
    obtain ⟨h1, t, h2, h3⟩ := Fol.direct hb q.V q.N.toNat 0 ho.s h hi
    rw [Int.zero_mul, Int.zero_add] at h2
    refine ⟨h1, t, ?_, h3⟩
    simp only [S.dirQ, if_pos hm, h2, if_true]
  · rename_i hd
    have hm := of_decide_eq_true hm
    simp only [if_neg hd, R.TS.bit] at hi ⊢
    have hc := R.bit_mid ho hm.1 hm.2
    obtain ⟨h1, t, h2, h3⟩ := h.bit hb (q.V % 2) (by omega) hc.1 hc.2 hi
    refine ⟨h1, t, ?_, h3⟩
    simp only [S.bitQ, if_pos hm, h.R, h2, if_true]
theorem Fol.run {b : List UInt8} {f : R.S} (hb : Begins b f) : ∀ (qs : List T_pithlaw08_Ask) {a : R.TS} {d : S}, Fol b f a.s d → a.Ok → (∀ q ∈ qs, R.may a.l.length q = true) → In (a.run qs).s f →
    In a.s f ∧ ∃ t, D.run (d, a.l) qs = (qs.map R.told, (t, (a.run qs).l)) ∧ Fol b f (a.run qs).s t
  | [], a, d, h, ho, hm, hi => ⟨hi, d, rfl, h⟩
  | q :: qs, a, d, h, ho, hm, hi => by
    rw [R.TS.run] at hi ⊢
    have h0 := hm q List.mem_cons_self
    have o1 := (ho.ask h0).1
    have hm' : ∀ q' ∈ qs, R.may (a.ask q).l.length q' = true := fun q' hq => by rw [R.TS.ask_len]; exact hm q' (List.mem_cons_of_mem _ hq)
    obtain ⟨h1, _⟩ := Fol.run hb qs (Fol.at_ b f _) o1 hm' hi
    obtain ⟨h2, t, h3, h4⟩ := h.ask hb ho h0 h1
    obtain ⟨_, t2, h5, h6⟩ := Fol.run hb qs h4 o1 hm' hi
    refine ⟨h2, t2, ?_, h6⟩
    rw [D.run, h3]
    simp only [h5, List.map_cons]
/-- At the front. -/
theorem Fol.start {b : List UInt8} {f : R.S} (hb : Begins b f) (hi : In R.S.new f) : ∃ t, D.start b = .ok t () ∧ Fol b f R.S.new t := by
  have hs := hi.seen
  have hl := hb.len
  have hN : R.S.new.N = 0 := rfl
  have hR : R.S.new.R = 4294967295 := rfl
  have hK : R.S.new.k = 0 := rfl
  rw [hN, hR, hK] at hs
  obtain ⟨b0, hb0⟩ : ∃ x, b[0]? = some x := ⟨b[0]'(by omega), by simp⟩
  have e := hb.seen (k := 0) (by omega)
  rw [Nat.zero_add] at e
  have hsplit : b.take 5 = b0 :: (b.drop 1).take 4 := by
    cases b with
    | nil => simp at hl
    | cons x l => simp at hb0; subst hb0; rfl
  have hn := R.num_append [b0] ((b.drop 1).take 4)
  have hl4 : ((b.drop 1).take 4).length = 4 := by rw [List.length_take, List.length_drop]; omega
  rw [List.singleton_append, ← hsplit, e, hl4] at hn
  have h1 : R.num [b0] = b0.toNat := by simp [R.num]
  have h4 : (256 : Int) ^ 4 = 4294967296 := by decide
  rw [h1, h4] at hn
  have hfb := front_bd b 4 (by omega)
  have hfe : front b 4 = R.num ((b.drop 1).take 4) := rfl
  have hz : b0.toNat = 0 := by omega
  have hb00 : b0 = 0 := UInt8.toNat_inj.1 hz
  subst hb00
  have hft : front b 4 = seen f 0 := by omega
  refine ⟨⟨b, 5, 4294967295, front b 4⟩, ?_, ⟨rfl, rfl, rfl, by rw [hN, hK]; simp only [hft]; omega⟩⟩
  rw [D.start, if_neg (by omega), hb0, if_neg]
  rintro (h | h)
  · exact h rfl
  · omega
theorem seen_self (f : R.S) : seen f f.k = f.N := by rw [seen, Nat.sub_self, Int.pow_zero, Int.ediv_one]
/-- Whatever is encoded comes back. -/
theorem back {n : Nat} {qs : List T_pithlaw08_Ask} (hm : ∀ q ∈ qs, R.may n q = true) (more : List UInt8) :
    ∃ d t, D.start ((R.TS.run ⟨R.S.new, List.replicate n 1024⟩ qs).s.bytes ++ more) = .ok d () ∧ D.run (d, List.replicate n 1024) qs = (qs.map R.told, (t, (R.TS.run ⟨R.S.new, List.replicate n 1024⟩ qs).l)) ∧
      t.k = (R.TS.run ⟨R.S.new, List.replicate n 1024⟩ qs).s.bytes.length ∧ t.C = 0 ∧ t.b = (R.TS.run ⟨R.S.new, List.replicate n 1024⟩ qs).s.bytes ++ more := by
  have ho : R.TS.Ok ⟨R.S.new, List.replicate n 1024⟩ := ⟨R.Ok.new, B.Fine.new n⟩
  have hm' : ∀ q ∈ qs, R.may (R.TS.mk R.S.new (List.replicate n 1024)).l.length q = true := fun q hq => by simp only [List.length_replicate]; exact hm q hq
  have hf := (R.TS.Ok.run qs ho hm').1
  have hself := In.self (f := (R.TS.run ⟨R.S.new, List.replicate n 1024⟩ qs).s) (by have := hf.s.r0; omega)
  have hb := Begins.of hf.s more
  have hi := (Fol.run hb qs (Fol.at_ _ _ _) ho hm' hself).1
  obtain ⟨d, h1, h2⟩ := Fol.start hb hi
  obtain ⟨_, t, h3, h4⟩ := Fol.run hb qs h2 ho hm' hself
  refine ⟨d, t, h1, h3, ?_, ?_, h4.b⟩
  · rw [h4.k]; exact (R.digits_length _ _).symm
  · rw [h4.C, seen_self, Int.sub_self]
end D

end Go.Proofs.Ytoejaggkedlfmaa

namespace Go.Proofs.Ytoejaggkedlfmaa
open Go
set_option linter.unusedSimpArgs false
set_option linter.unnecessarySimpa false
set_option linter.unusedSectionVars false
set_option linter.unusedVariables false

namespace R
/-- The node behind some bits. -/
def nodeL (l : List Int) : Int := l.foldl (fun m b => 2 * m + b) 1
/-- Bits as a number, the highest first. -/
def horner (l : List Int) : Int := l.foldl (fun m b => 2 * m + b) 0
/-- Bits as a number, the lowest first. -/
def backv (l : List Int) : Int := l.foldr (fun b m => b + 2 * m) 0
def val (back : Bool) (l : List Int) : Int := if back then backv l else horner l
theorem nodeL_snoc (l : List Int) (b : Int) : nodeL (l ++ [b]) = 2 * nodeL l + b := by simp [nodeL]
theorem horner_snoc (l : List Int) (b : Int) : horner (l ++ [b]) = 2 * horner l + b := by simp [horner]
theorem backv_snoc (b : Int) : ∀ l : List Int, backv (l ++ [b]) = backv l + b * 2 ^ l.length
  | [] => by simp [backv]
  | x :: l => by
    have := backv_snoc b l
    simp only [backv, List.cons_append, List.foldr_cons, List.length_cons, Int.pow_succ] at this ⊢
    rw [this]
    grind
/-- Bits. -/
def Bits (l : List Int) : Prop := ∀ b ∈ l, b = 0 ∨ b = 1
theorem Bits.snoc {l : List Int} {b : Int} (h : Bits l) (hb : b = 0 ∨ b = 1) : Bits (l ++ [b]) := by
  intro x hx
  rcases List.mem_append.1 hx with hx | hx
  · exact h x hx
  · rw [List.mem_singleton.1 hx]; exact hb
theorem Bits.init {l : List Int} {b : Int} (h : Bits (l ++ [b])) : Bits l ∧ (b = 0 ∨ b = 1) := ⟨fun x hx => h x (List.mem_append_left _ hx), h b (by simp)⟩
theorem nodeL_bd {l : List Int} : Bits l → (2 : Int) ^ l.length ≤ nodeL l ∧ nodeL l < 2 ^ (l.length + 1) := by
  induction l using snoc_ind with
  | h0 => intro _; simp [nodeL]
  | h1 l b ih =>
    intro h
    obtain ⟨h1, h2⟩ := h.init
    have := ih h1
    rw [nodeL_snoc, List.length_append, List.length_cons, List.length_nil, Int.pow_succ, Int.pow_succ _ (l.length + (0 + 1))]
    rw [Int.pow_succ] at this ⊢
    generalize (2 : Int) ^ l.length = q at *
    omega
theorem horner_bd {l : List Int} : Bits l → 0 ≤ horner l ∧ horner l < 2 ^ l.length := by
  induction l using snoc_ind with
  | h0 => intro _; simp [horner]
  | h1 l b ih =>
    intro h
    obtain ⟨h1, h2⟩ := h.init
    have := ih h1
    rw [horner_snoc, List.length_append, List.length_cons, List.length_nil, Int.pow_succ]
    generalize (2 : Int) ^ l.length = q at *
    omega
theorem backv_bd {l : List Int} : Bits l → 0 ≤ backv l ∧ backv l < 2 ^ l.length := by
  induction l using snoc_ind with
  | h0 => intro _; simp [backv]
  | h1 l b ih =>
    intro h
    obtain ⟨h1, h2⟩ := h.init
    have := ih h1
    rw [backv_snoc, List.length_append, List.length_cons, List.length_nil, Int.pow_succ]
    generalize (2 : Int) ^ l.length = q at *
    rcases h2 with rfl | rfl <;> omega
/-- What a reader of so many bits has together behind some. -/
def part (back : Bool) (n : Nat) (l : List Int) : Int := if back then backv l else horner l * 2 ^ (n - l.length)
theorem part_end (back : Bool) (l : List Int) : part back l.length l = val back l := by
  unfold part val; split
  · rfl
  · rw [Nat.sub_self, Int.pow_zero, Int.mul_one]
theorem part_snoc (back : Bool) {n : Nat} {l : List Int} (h : l.length < n) (b : Int) : part back n (l ++ [b]) = part back n l + b * 2 ^ (if back then l.length else n - 1 - l.length) := by
  unfold part
  cases back
  · simp only [Bool.false_eq_true, if_false, horner_snoc, List.length_append, List.length_cons, List.length_nil]
    rw [show n - l.length = (n - 1 - l.length) + 1 from by omega, show n - (l.length + (0 + 1)) = n - 1 - l.length from by omega, Int.pow_succ]
    grind
  · simp only [if_true, backv_snoc]
end R

namespace D
/-- Bits down a tree: the decoder behind them, the bits up to the first refusal, the refusal. -/
def walk (at_ : Int) (z : A) : Nat → A × List Int × Int
  | 0 => (z, [], 0)
  | k + 1 => if (walk at_ z k).2.2 ≠ 0 then walk at_ z k
    else if ((walk at_ z k).1.1.bitQ (walk at_ z k).1.2 (at_ + R.nodeL (walk at_ z k).2.1)).2.2.2 = 0 then
      ((((walk at_ z k).1.1.bitQ (walk at_ z k).1.2 (at_ + R.nodeL (walk at_ z k).2.1)).1, ((walk at_ z k).1.1.bitQ (walk at_ z k).1.2 (at_ + R.nodeL (walk at_ z k).2.1)).2.1), (walk at_ z k).2.1 ++ [((walk at_ z k).1.1.bitQ (walk at_ z k).1.2 (at_ + R.nodeL (walk at_ z k).2.1)).2.2.1], 0)
    else ((walk at_ z k).1, (walk at_ z k).2.1, ((walk at_ z k).1.1.bitQ (walk at_ z k).1.2 (at_ + R.nodeL (walk at_ z k).2.1)).2.2.2)
theorem walk_step {at_ : Int} {z y : A} {k : Nat} {l : List Int} (h : walk at_ z k = (y, l, 0)) : walk at_ z (k + 1) =
    if (y.1.bitQ y.2 (at_ + R.nodeL l)).2.2.2 = 0 then (((y.1.bitQ y.2 (at_ + R.nodeL l)).1, (y.1.bitQ y.2 (at_ + R.nodeL l)).2.1), l ++ [(y.1.bitQ y.2 (at_ + R.nodeL l)).2.2.1], 0) else (y, l, (y.1.bitQ y.2 (at_ + R.nodeL l)).2.2.2) := by
  rw [walk, h]
  simp only [ne_eq, not_true_eq_false, if_false]
theorem walk_stuck {at_ : Int} {z : A} {k : Nat} (h : (walk at_ z k).2.2 ≠ 0) : ∀ j, walk at_ z (k + j) = walk at_ z k
  | 0 => rfl
  | j + 1 => by
    have e := walk_stuck h j
    have h2 : (walk at_ z (k + j)).2.2 ≠ 0 := by rw [e]; exact h
    rw [← Nat.add_assoc, walk, if_pos h2, e]
theorem walk_ok {at_ : Int} {z : A} (hz : AOk z) : ∀ k, AOk (walk at_ z k).1 ∧ Same (walk at_ z k).1 z ∧ R.Bits (walk at_ z k).2.1 ∧ ((walk at_ z k).2.2 = 0 → (walk at_ z k).2.1.length = k)
  | 0 => ⟨hz, ⟨rfl, rfl⟩, fun _ h => by simp [walk] at h, fun _ => rfl⟩
  | k + 1 => by
    obtain ⟨h1, h2, h3, h4⟩ := walk_ok (at_ := at_) hz k
    rw [walk]
    split
    · rename_i he
      exact ⟨h1, h2, h3, fun h => absurd h he⟩
    · rename_i he
      have hb := bitQ_ok h1.s h1.f (at_ + R.nodeL (walk at_ z k).2.1)
      split
      · rename_i h0
        refine ⟨⟨hb.1, hb.2.2.1⟩, ⟨hb.2.1.trans h2.b, hb.2.2.2.trans h2.n⟩, h3.snoc bitQ_v, fun _ => ?_⟩
        simp only [List.length_append, List.length_cons, List.length_nil, h4 (Decidable.not_not.1 he)]
      · rename_i h0
        exact ⟨h1, h2, h3, fun h => absurd h h0⟩
/-- A number got. -/
def gets (z : A) (at_ n : Int) (back : Bool) : A × Int × Int :=
  if R.There z.2.length at_ n then (if (walk at_ z n.toNat).2.2 = 0 then ((walk at_ z n.toNat).1, R.val back (walk at_ z n.toNat).2.1, 0) else ((walk at_ z n.toNat).1, 0, (walk at_ z n.toNat).2.2)) else (z, 0, 7)
theorem gets_ok {z : A} (hz : AOk z) (at_ n : Int) (back : Bool) : AOk (gets z at_ n back).1 ∧ Same (gets z at_ n back).1 z := by
  obtain ⟨h1, h2, _⟩ := walk_ok (at_ := at_) hz n.toNat
  unfold gets
  split
  · split
    · exact ⟨h1, h2⟩
    · exact ⟨h1, h2⟩
  · exact ⟨hz, ⟨rfl, rfl⟩⟩

/-- The bits that were put are got. -/
theorem nodeL_bits (bs : Nat → Int) (bl : Nat → List Int) (h0 : bl 0 = []) (h : ∀ k, bl (k + 1) = bl k ++ [bs k]) : ∀ k, R.nodeL (bl k) = R.node bs k
  | 0 => by rw [h0]; rfl
  | k + 1 => by rw [h, R.nodeL_snoc, nodeL_bits bs bl h0 h k]; rfl
def bitsOf (bs : Nat → Int) : Nat → List Int
  | 0 => []
  | k + 1 => bitsOf bs k ++ [bs k]
theorem bitsOf_len (bs : Nat → Int) : ∀ k, (bitsOf bs k).length = k
  | 0 => rfl
  | k + 1 => by rw [bitsOf, List.length_append, bitsOf_len bs k]; rfl
theorem Fol.put {b : List UInt8} {f : R.S} (hb : Begins b f) {a : R.TS} {d : S} {at_ n : Int} {bs : Nat → Int} (hbs : ∀ k, 0 ≤ bs k ∧ bs k ≤ 1) (ht : R.There a.l.length at_ n) (ho : a.Ok) (h : Fol b f a.s d) :
    ∀ k : Nat, k ≤ n.toNat → In (a.put at_ bs k).s f → In a.s f ∧ ∃ t, walk at_ (d, a.l) k = ((t, (a.put at_ bs k).l), bitsOf bs k, 0) ∧ Fol b f (a.put at_ bs k).s t
  | 0, _, hi => ⟨hi, d, rfl, h⟩
  | k + 1, hk, hi => by
    have hp := ht.place hbs (k := k) (by omega)
    have o1 := (ho.put ht hbs k (by omega)).1
    have hlen := R.TS.put_len a at_ bs k
    have hc := R.bit_mid o1 (i := at_ + R.node bs k) hp.1 (by omega)
    have hbk := hbs k
    have hb01 : bs k = 0 ∨ bs k = 1 := by omega
    simp only [R.TS.put, R.TS.bit] at hi
    obtain ⟨hi2, _⟩ := Fol.bit hb (Fol.at_ b f (a.put at_ bs k).s) (bs k) hb01 hc.1 hc.2 hi
    obtain ⟨h1, t, h2, h3⟩ := Fol.put hb hbs ht ho h k (by omega) hi2
    obtain ⟨_, t2, h4, h5⟩ := h3.bit hb (bs k) hb01 hc.1 hc.2 hi
    refine ⟨h1, t2, ?_, h5⟩
    have hn : R.nodeL (bitsOf bs k) = R.node bs k := nodeL_bits bs (bitsOf bs) rfl (fun _ => rfl) k
    have hq : t.bitQ (a.put at_ bs k).l (at_ + R.node bs k) = (t2, (a.put at_ bs k).l.set (at_ + R.node bs k).toNat (B.next ((a.put at_ bs k).l.getD (at_ + R.node bs k).toNat 0) (bs k)), bs k, 0) := by
      simp only [S.bitQ, if_pos (show 0 ≤ at_ + R.node bs k ∧ at_ + R.node bs k < (a.put at_ bs k).l.length from ⟨hp.1, by omega⟩), h3.R, h4]
    rw [walk_step h2, hn]
    simp only [hq, if_true, R.TS.put, R.TS.bit, bitsOf]
end D

namespace R
theorem val_bits (back : Bool) (n : Nat) {v : Int} (h0 : 0 ≤ v) (h1 : v < 2 ^ n) : val back (D.bitsOf (bitAt back n v) n) = v := by
  cases back
  · have key : ∀ k, k ≤ n → horner (D.bitsOf (bitAt false n v) k) = v / 2 ^ (n - k) := by
      intro k
      induction k with
      | zero =>
        intro _
        rw [Nat.sub_zero, Int.ediv_eq_zero_of_lt h0 h1]; rfl
      | succ k ih =>
        intro hk
        rw [D.bitsOf, horner_snoc, ih (by omega)]
        simp only [bitAt, Bool.false_eq_true, if_false]
        rw [show n - 1 - k = n - (k + 1) from by omega, show n - k = (n - (k + 1)) + 1 from by omega, Int.pow_succ, ← Int.ediv_ediv_of_nonneg (Int.le_of_lt (Int.pow_pos (by omega)))]
        omega
    have := key n (Nat.le_refl _)
    simp only [val, Bool.false_eq_true, if_false, this, Nat.sub_self, Int.pow_zero, Int.ediv_one]
  · have key : ∀ k, k ≤ n → backv (D.bitsOf (bitAt true n v) k) = v % 2 ^ k := by
      intro k
      induction k with
      | zero => intro _; simp [D.bitsOf, backv, Int.emod_one]
      | succ k ih =>
        intro hk
        rw [D.bitsOf, backv_snoc, ih (by omega), D.bitsOf_len, D.bits_top]
        simp only [bitAt, if_true]
        rw [Int.add_comm]
    have := key n (Nat.le_refl _)
    simp only [val, if_true, this]
    exact Int.emod_eq_of_lt h0 h1
end R

namespace D
/-- A number that was put is got. -/
theorem Fol.gets {b : List UInt8} {f : R.S} (hb : Begins b f) {a : R.TS} {d : S} {at_ n v : Int} (back : Bool) (ht : R.There a.l.length at_ n) (hv : R.Holds v n) (ho : a.Ok) (h : Fol b f a.s d) (hi : In (a.put at_ (R.bitAt back n.toNat v) n.toNat).s f) :
    In a.s f ∧ ∃ t, D.gets (d, a.l) at_ n back = ((t, (a.put at_ (R.bitAt back n.toNat v) n.toNat).l), v, 0) ∧ Fol b f (a.put at_ (R.bitAt back n.toNat v) n.toNat).s t := by
  obtain ⟨h1, t, h2, h3⟩ := Fol.put hb (R.bitAt_01 back n.toNat v) ht ho h n.toNat (Nat.le_refl _) hi
  refine ⟨h1, t, ?_, h3⟩
  rw [D.gets, if_pos ht, h2]
  simp only [if_true, R.val_bits back n.toNat hv.1 hv.2]
end D

end Go.Proofs.Ytoejaggkedlfmaa

namespace Go.Proofs.Ytoejaggkedlfmaa
open Go
set_option linter.unusedSimpArgs false
set_option linter.unnecessarySimpa false
set_option linter.unusedSectionVars false
set_option linter.unusedVariables false


namespace R
theorem cut_norm (s : S) (c v : Int) : s.cut c v = s.cut c (if v = 0 then 0 else 1) := by
  by_cases h : v = 0
  · subst h; rfl
  · rw [if_neg h]; simp only [S.cut, if_neg h]; rfl
theorem next_norm (p v : Int) : B.next p v = B.next p (if v = 0 then 0 else 1) := by
  by_cases h : v = 0
  · subst h; rfl
  · rw [if_neg h]; simp only [B.next, if_neg h]; rfl
/-- A step on a row: none: it is refused. -/
def TS.step (a : TS) (o : T_pithlaw09_Op) : Option TS :=
  if o.Kind = 0 then (if There a.l.length o.At o.N ∧ Holds o.V o.N then some (a.put o.At (bitAt false o.N.toNat o.V) o.N.toNat) else none)
  else if o.Kind = 1 then (if There a.l.length o.At o.N ∧ Holds o.V o.N then some (a.put o.At (bitAt true o.N.toNat o.V) o.N.toNat) else none)
  else if o.Kind = 3 then (if 0 ≤ o.At ∧ o.At < a.l.length then some (a.bit o.At o.V) else none)
  else if o.Kind = 4 then (if 0 ≤ o.N ∧ o.N ≤ 32 then some ⟨a.s.direct (o.V % 4294967296) o.N.toNat, a.l⟩ else none)
  else none
theorem TS.Ok.put_k {a : TS} (h : a.Ok) {at_ n : Int} (ht : There a.l.length at_ n) {bs : Nat → Int} (hb : ∀ k, 0 ≤ bs k ∧ bs k ≤ 1) : ∀ k : Nat, k ≤ n.toNat → (a.put at_ bs k).s.k ≤ a.s.k + k
  | 0, _ => Nat.le_refl _
  | k + 1, hk => by
    have i1 := TS.Ok.put_k h ht hb k (by omega)
    have ⟨o1, _⟩ := h.put ht hb k (by omega)
    have hp := ht.place hb (k := k) (by omega)
    have hl := a.put_len at_ bs k
    have hm := bit_mid o1 (i := at_ + node bs k) hp.1 (by omega)
    have : ((a.put at_ bs k).bit (at_ + node bs k) (bs k)).s.k ≤ (a.put at_ bs k).s.k + 1 := by
      simp only [TS.bit, S.cut]
      split
      · exact (widen_k _ ⟨(a.put at_ bs k).s.N, _, (a.put at_ bs k).s.k⟩ rfl (by simp only; omega)).2 (by simp only; omega)
      · exact (widen_k _ ⟨(a.put at_ bs k).s.N + _, (a.put at_ bs k).s.R - _, (a.put at_ bs k).s.k⟩ rfl (by simp only; omega)).2 (by simp only; omega)
    simp only [TS.put]
    omega
theorem TS.Ok.step {a t : TS} (h : a.Ok) {o : T_pithlaw09_Op} (e : a.step o = some t) : t.Ok ∧ t.s.k ≤ a.s.k + 32 ∧ t.l.length = a.l.length := by
  unfold TS.step at e
  split at e
  · split at e
    · rename_i hc
      cases e
      have h16 := hc.1.2.1
      have h2 := h.put_k hc.1 (bitAt_01 false o.N.toNat o.V) o.N.toNat (Nat.le_refl _)
      exact ⟨(h.put hc.1 (bitAt_01 _ _ _) _ (Nat.le_refl _)).1, by omega, TS.put_len _ _ _ _⟩
    · cases e
  · split at e
    · split at e
      · rename_i hc
        cases e
        have h16 := hc.1.2.1
        have h2 := h.put_k hc.1 (bitAt_01 true o.N.toNat o.V) o.N.toNat (Nat.le_refl _)
        exact ⟨(h.put hc.1 (bitAt_01 _ _ _) _ (Nat.le_refl _)).1, by omega, TS.put_len _ _ _ _⟩
      · cases e
    · split at e
      · split at e
        · rename_i hc
          cases e
          obtain ⟨h1, h2⟩ := h.bit hc.1 hc.2 o.V
          exact ⟨h1, by omega, TS.bit_len _ _ _⟩
        · cases e
      · split at e
        · split at e
          · rename_i hc
            cases e
            have := direct_k2 (o.V % 4294967296) o.N.toNat h.s
            exact ⟨⟨Ok.direct _ _ h.s, h.f⟩, by simp only; omega, rfl⟩
          · cases e
        · cases e
end R

namespace D
/-- What a decoder's row answers to a step that was taken. -/
structure Gives (d : S) (l : List Int) (o : T_pithlaw09_Op) (t : S) (l' : List Int) : Prop where
  k0 : o.Kind = 0 → gets (d, l) o.At o.N false = ((t, l'), o.V, 0)
  k1 : o.Kind = 1 → gets (d, l) o.At o.N true = ((t, l'), o.V, 0)
  k3 : o.Kind = 3 → d.bitQ l o.At = (t, l', (if o.V = 0 then 0 else 1), 0)
  k4 : o.Kind = 4 → d.dirQ o.N = (t, o.V % 4294967296 % 2 ^ o.N.toNat, 0) ∧ l' = l ∧ 0 ≤ o.N ∧ o.N ≤ 32
  kd : o.Kind = 0 ∨ o.Kind = 1 ∨ o.Kind = 3 ∨ o.Kind = 4
theorem Fol.step {b : List UInt8} {f : R.S} (hb : Begins b f) {a a' : R.TS} {d : S} (h : Fol b f a.s d) (ho : a.Ok) {o : T_pithlaw09_Op} (e : a.step o = some a') (hi : In a'.s f) :
    In a.s f ∧ ∃ t, Gives d a.l o t a'.l ∧ Fol b f a'.s t := by
  unfold R.TS.step at e
  split at e
  · rename_i hk
    split at e
    · rename_i hc
      cases e
      obtain ⟨h1, t, h2, h3⟩ := Fol.gets hb false hc.1 hc.2 ho h hi
      exact ⟨h1, t, ⟨fun _ => h2, fun h => by omega, fun h => by omega, fun h => by omega, .inl hk⟩, h3⟩
    · cases e
  · split at e
    · rename_i hk
      split at e
      · rename_i hc
        cases e
        obtain ⟨h1, t, h2, h3⟩ := Fol.gets hb true hc.1 hc.2 ho h hi
        exact ⟨h1, t, ⟨fun h => by omega, fun _ => h2, fun h => by omega, fun h => by omega, .inr (.inl hk)⟩, h3⟩
      · cases e
    · split at e
      · rename_i hk
        split at e
        · rename_i hc
          cases e
          have hm := R.bit_mid ho hc.1 hc.2
          have hx : (if o.V = 0 then 0 else 1 : Int) = 0 ∨ (if o.V = 0 then 0 else 1 : Int) = 1 := by split <;> simp
          have ec : (a.bit o.At o.V).s = a.s.cut (B.bound a.s.R (a.l.getD o.At.toNat 0)) (if o.V = 0 then 0 else 1) := R.cut_norm _ _ _
          rw [ec] at hi
          obtain ⟨h1, t, h2, h3⟩ := h.bit hb (if o.V = 0 then 0 else 1) hx hm.1 hm.2 hi
          refine ⟨h1, t, ⟨fun h => by omega, fun h => by omega, fun _ => ?_, fun h => by omega, .inr (.inr (.inl hk))⟩, by rw [ec]; exact h3⟩
          simp only [S.bitQ, if_pos hc, h.R, h2, R.TS.bit]
          rw [R.next_norm _ o.V]
        · cases e
      · split at e
        · rename_i hk
          split at e
          · rename_i hc
            cases e
            obtain ⟨h1, t, h2, h3⟩ := Fol.direct hb (o.V % 4294967296) o.N.toNat 0 ho.s h hi
            rw [Int.zero_mul, Int.zero_add] at h2
            refine ⟨h1, t, ⟨fun h => by omega, fun h => by omega, fun h => by omega, fun _ => ⟨?_, rfl, hc⟩, .inr (.inr (.inr hk))⟩, h3⟩
            simp only [S.dirQ, if_pos hc, h2]
          · cases e
        · cases e
end D

/-- An encoder (or what a decoder follows) with its rows. -/
abbrev MS := R.S × List (List Int)
def took (m : MS) (o : T_pithlaw09_Op) : Option MS := ((R.TS.mk m.1 (m.2.getD (rowOf o.Row m.2.length) [])).step o).map fun t => (t.s, m.2.set (rowOf o.Row m.2.length) t.l)
structure MOk (m : MS) : Prop where
  s : R.Ok m.1
  f : ∀ l ∈ m.2, B.Fine l
  p : 0 < m.2.length
theorem MOk.get {m : MS} (h : MOk m) (r : Int) : ∃ l, m.2[rowOf r m.2.length]? = some l ∧ m.2.getD (rowOf r m.2.length) [] = l ∧ B.Fine l := by
  have hi := rowOf_lt r h.p
  refine ⟨m.2[rowOf r m.2.length]'hi, by simp [hi], by simp [hi], h.f _ (List.getElem_mem hi)⟩
theorem MOk.took {m m' : MS} (h : MOk m) {o : T_pithlaw09_Op} (e : took m o = some m') : MOk m' ∧ m'.2.length = m.2.length ∧ m'.1.k ≤ m.1.k + 32 := by
  obtain ⟨l, h1, h2, h3⟩ := h.get o.Row
  unfold Proofs.Ytoejaggkedlfmaa.took at e
  rw [h2] at e
  obtain ⟨t, e1, e2⟩ := Option.map_eq_some_iff.1 e
  subst e2
  have oa : R.TS.Ok ⟨m.1, l⟩ := ⟨h.s, h3⟩
  obtain ⟨g1, g2, g3⟩ := oa.step e1
  refine ⟨⟨g1.s, fun x hx => ?_, by rw [List.length_set]; exact h.p⟩, List.length_set .., g2⟩
  rcases List.mem_or_eq_of_mem_set hx with hx | rfl
  · exact h.f x hx
  · exact g1.f
/-- Steps that are all taken. -/
inductive Chain : MS → List T_pithlaw09_Op → MS → Prop
  | nil (m : MS) : Chain m [] m
  | cons {m m' m'' : MS} {o : T_pithlaw09_Op} {os : List T_pithlaw09_Op} (e : took m o = some m') (h : Chain m' os m'') : Chain m (o :: os) m''
theorem Chain.snoc {m m' m'' : MS} {os : List T_pithlaw09_Op} {o : T_pithlaw09_Op} (h : Chain m os m') (e : took m' o = some m'') : Chain m (os ++ [o]) m'' := by
  induction h with
  | nil m => exact .cons e (.nil _)
  | cons e1 _ ih => exact .cons e1 (ih e)
theorem Chain.back {b : List UInt8} {f : R.S} (hb : D.Begins b f) {m m' : MS} {os : List T_pithlaw09_Op} (h : Chain m os m') (ho : MOk m) (hi : D.In m'.1 f) : D.In m.1 f := by
  induction h with
  | nil m => exact hi
  | @cons m m1 m2 o os e _ ih =>
    have h1 := ih (ho.took e).1 hi
    obtain ⟨l, _, h2, h3⟩ := ho.get o.Row
    unfold Proofs.Ytoejaggkedlfmaa.took at e
    rw [h2] at e
    obtain ⟨t, e1, e2⟩ := Option.map_eq_some_iff.1 e
    subst e2
    exact (D.Fol.step hb (a := ⟨m.1, l⟩) (D.Fol.at_ b f m.1) ⟨ho.s, h3⟩ e1 h1).1
theorem Chain.next {m m' : MS} {os : List T_pithlaw09_Op} {k : Nat} {o : T_pithlaw09_Op} (ho : os[k]? = some o) (h : Chain m (os.drop k) m') : ∃ m1, took m o = some m1 ∧ Chain m1 (os.drop (k + 1)) m' := by
  obtain ⟨h1, h2⟩ := List.getElem?_eq_some_iff.1 ho
  rw [List.drop_eq_getElem_cons h1, h2] at h
  cases h with
  | cons e h => exact ⟨_, e, h⟩

/-! The rows of one side -/
def bagP (ps : List (Nat × Nat)) (ls : List (List Int)) : HA := bag ((ps.zip ls).map fun x => PSet x.1.1 x.2)
section
variable {E w : World} {b : Nat} {ps : List (Nat × Nat)} {ls : List (List Int)} {l : List Int}
theorem bagL.one : ∀ (ps : List (Nat × Nat)) (ls : List (List Int)) (M : List HA), Sat E w (bagL ps ls :: M) → Sat E w (bagP ps ls :: M)
  | [], ls, M, hS => by simpa [bagL, bagP] using hS
  | p :: ps, [], M, hS => by simpa [bagL, bagP] using hS
  | p :: ps, l :: ls, M, hS => by
    have h1 : Sat E w (pairH (p, l) :: (((ps.zip ls).map pairH) ++ M)) := by
      have := Sat.openBag hS
      simpa using this
    have h2 : Sat E w (PSet p.1 l :: RSet p.2 l :: (((ps.zip ls).map pairH) ++ M)) := h1.open_ (M := [_, _]) fun _ h => h
    have h3 : Sat E w ((PSet p.1 l :: (((ps.zip ls).map pairH) ++ M))) := (h2.perm (List.Perm.swap _ _ _)).drop
    have h4 : Sat E w (((ps.zip ls).map pairH) ++ PSet p.1 l :: M) := h3.perm List.perm_middle.symm
    have h5 := bagL.one ps ls (PSet p.1 l :: M) (Sat.shutBag h4)
    have h6 : Sat E w (PSet p.1 l :: bagP ps ls :: M) := h5.perm (List.Perm.swap _ _ _)
    exact Sat.bag_cons h6
theorem zipP_get {i : Nat} {p : Nat × Nat} (hp : ps[i]? = some p) (hl : ls[i]? = some l) : ((ps.zip ls).map fun x => PSet x.1.1 x.2)[i]? = some (PSet p.1 l) := by
  rw [List.getElem?_map, (List.getElem?_zip_eq_some (z := (p, l))).2 ⟨hp, hl⟩]; rfl
theorem bagP.out {M : List HA} {i : Nat} {p : Nat × Nat} (hS : Sat E w (bagP ps ls :: M)) (hp : ps[i]? = some p) (hl : ls[i]? = some l) :
    Sat E w (PSet p.1 l :: bag (((ps.zip ls).map fun x => PSet x.1.1 x.2).eraseIdx i) :: M) := Sat.out hS i (zipP_get hp hl)
theorem bagP.into {M : List HA} {i : Nat} {p : Nat × Nat} {m : List Int} (hS : Sat E w (PSet p.1 m :: bag (((ps.zip ls).map fun x => PSet x.1.1 x.2).eraseIdx i) :: M)) (hp : ps[i]? = some p) (hl : ls[i]? = some l) :
    Sat E w (bagP ps (ls.set i m) :: M) := by
  have h2 := Sat.into hS (zipP_get hp hl)
  have e : (((ps.zip ls).map fun x => PSet x.1.1 x.2).set i (PSet p.1 m)) = (ps.zip (ls.set i m)).map fun x => PSet x.1.1 x.2 := by
    rw [← zip_set0 ps ls i p hp m, List.map_set]
  rw [e] at h2
  exact h2
end

end Go.Proofs.Ytoejaggkedlfmaa

namespace Go.Proofs.Ytoejaggkedlfmaa
open Go
set_option linter.unusedSimpArgs false
set_option linter.unnecessarySimpa false
set_option linter.unusedSectionVars false
set_option linter.unusedVariables false
attribute [local irreducible] oMv oV oU oCall oCallV oBi oBin oUn oLoad oStore oNil oFld oField oIdx oIndex oPick oAlloc oBox oBuild oBs oConv oMk oSl oExt oFn oIface oMap oLook oMapUp oRange oNext oAssert oPanic oRes pN pA pL pDr pIf gA pGd

theorem D.bitQ_v0 {st : D.S} {l : List Int} {i : Int} (h : (st.bitQ l i).2.2.2 ≠ 0) : (st.bitQ l i).2.2.1 = 0 := by
  unfold D.S.bitQ at *
  split
  · rename_i hn
    simp only [if_pos hn] at h
    split
    · rename_i t v e
      simp only [e] at h
      exact absurd rfl h
    · rfl
  · rfl

section
variable {E w : World} {M : List HA} {Q : Value → World → Prop} {d p : Nat}

/-- down, where each call may refuse. -/
theorem downG_ok (at_ : Int) (n : Nat) (g : Value) (z : D.A) (hz : D.AOk z) (hn : n ≤ 16) (h0 : 0 ≤ at_) (h1 : at_ ≤ 1099511627776) (Inv : D.A → List Int → World → Prop)
    (hI : Inv z [] w) (step : ∀ y l w (K : Value → World → Prop), D.AOk y → D.Same y z → R.Bits l → l.length < n → Inv y l w →
      (∀ w, (y.1.bitQ y.2 (at_ + R.nodeL l)).2.2.2 = 0 → Inv ((y.1.bitQ y.2 (at_ + R.nodeL l)).1, (y.1.bitQ y.2 (at_ + R.nodeL l)).2.1) (l ++ [(y.1.bitQ y.2 (at_ + R.nodeL l)).2.2.1]) w → K (.tuple #[.int .i64 (y.1.bitQ y.2 (at_ + R.nodeL l)).2.2.1, .int .i64 0]) w) →
      (∀ w, (y.1.bitQ y.2 (at_ + R.nodeL l)).2.2.2 ≠ 0 → Inv y l w → K (.tuple #[.int .i64 (y.1.bitQ y.2 (at_ + R.nodeL l)).2.2.1, .int .i64 (y.1.bitQ y.2 (at_ + R.nodeL l)).2.2.2]) w) →
      pN Try.prog (oCallV g [.int .i64 (at_ + R.nodeL l), .int .i64 l.length]) w K)
    (hQ : ∀ w, Inv (D.walk at_ z n).1 (D.walk at_ z n).2.1 w → Q (.int .i64 (D.walk at_ z n).2.2) w) : Calls Try.prog 109 #[.int .i64 at_, .int .i64 n, g] w (retP Q) := by
  refine tree_down.calls ?_
  unfold tree_down.F
  refine ⟨fun m v w => ∃ (y : D.A) (l : List Int), m = .int .i64 (R.nodeL l) ∧ v = .int .i64 l.length ∧ l.length ≤ n ∧ D.walk at_ z l.length = (y, l, 0) ∧ Inv y l w, fun _ v _ => n - (RowKit.intOf v).toNat, ⟨z, [], rfl, rfl, Nat.zero_le _, rfl, hI⟩, ?_⟩
  rintro _ _ _ w1 ⟨y, l, rfl, rfl, hl, hw, hI⟩
  have hok := D.walk_ok (at_ := at_) hz l.length
  rw [hw] at hok
  obtain ⟨hy, hyz, hbits, _⟩ := hok
  dsimp only at hy hyz hbits
  have hm := R.nodeL_bd hbits
  have h2 : (2 : Int) ^ (l.length + 1) ≤ 2 ^ 17 := R.two_le (by omega)
  have h3 : (0 : Int) < 2 ^ l.length := Int.pow_pos (by omega)
  have e2 : (2 : Int) ^ 17 = 131072 := by decide
  have hst := D.walk_step hw
  have hb01 := D.bitQ_v (st := y.1) (l := y.2) (i := at_ + R.nodeL l)
  by_cases hlt : l.length < n
  · repeat' (first | (refine pN_lss_s ?_ ?_ <;> intro hc <;> try (exfalso; omega)) | refine pIf_t ?_ | refine pN_via (by (intro K; simp (disch := omega) only [go_sem, pN_min, pN_max, w_u32, w_u64, Option.isNone_some, Option.isNone_none]; (try simp only [wrap_u32, wrap_u64]); rfl)) ?_ | fail)
    refine step y l _ _ hy hyz hbits hlt hI (fun w h0 hI => ?_) (fun w h0 hI => ?_)
    · rw [if_pos h0] at hst
      repeat' (first | (refine pN_neq_s ?_ ?_ <;> intro hc <;> try (exfalso; first | omega | exact hc rfl | exact hc (by assumption) | exact absurd hc (by assumption))) | refine pIf_f ?_ | refine pN_via (by (intro K; simp (disch := omega) only [go_sem, pN_min, pN_max, w_u32, w_u64, Option.isNone_some, Option.isNone_none]; (try simp only [wrap_u32, wrap_u64]); rfl)) ?_ | fail)
      refine ⟨⟨_, l ++ [(y.1.bitQ y.2 (at_ + R.nodeL l)).2.2.1], by rw [R.nodeL_snoc], by simp, by simp; omega, by rw [List.length_append]; exact hst, hI⟩, by simp [RowKit.intOf] <;> omega⟩
    · rw [if_neg h0] at hst
      have hs := D.walk_stuck (at_ := at_) (z := z) (k := l.length + 1) (by rw [hst]; exact h0) (n - (l.length + 1))
      rw [show l.length + 1 + (n - (l.length + 1)) = n from by omega, hst] at hs
      rw [hs] at hQ
      repeat' (first | (refine pN_neq_s ?_ ?_ <;> intro hc <;> try (exfalso; first | omega | exact hc rfl | exact hc (by assumption) | exact absurd hc (by assumption))) | refine pIf_t ?_ | refine pN_via (by (intro K; simp (disch := omega) only [go_sem, pN_min, pN_max, w_u32, w_u64, Option.isNone_some, Option.isNone_none]; (try simp only [wrap_u32, wrap_u64]); rfl)) ?_ | fail)
      exact hQ _ hI
  · obtain rfl : n = l.length := by omega
    rw [hw] at hQ
    repeat' (first | (refine pN_lss_s ?_ ?_ <;> intro hc <;> try (exfalso; omega)) | refine pIf_f ?_ | fail)
    exact hQ _ hI

theorem part_or {back : Bool} {n : Nat} {l : List Int} (hb : R.Bits l) (hl : l.length < n) (hn : n ≤ 16) {x : Int} (hx : x = 0 ∨ x = 1) :
    IntKind.i64.wrap (x * 2 ^ (if back then l.length else n - 1 - l.length)) = x * 2 ^ (if back then l.length else n - 1 - l.length) ∧
    IntKind.i64.wrap ((BitVec.ofInt IntKind.i64.bits (R.part back n l) ||| BitVec.ofInt IntKind.i64.bits (x * 2 ^ (if back then l.length else n - 1 - l.length))).toNat : Int) = R.part back n l + x * 2 ^ (if back then l.length else n - 1 - l.length) := by
  have e64 : (2 : Int) ^ IntKind.i64.bits = 18446744073709551616 := by decide
  have e17 : (2 : Int) ^ 17 = 131072 := by decide
  cases back
  · simp only [Bool.false_eq_true, if_false, R.part]
    have h1 := R.horner_bd hb
    have p0 : (0 : Int) < 2 ^ (n - 1 - l.length) := Int.pow_pos (by omega)
    have p1 : (2 : Int) ^ (n - 1 - l.length) ≤ 2 ^ 17 := R.two_le (by omega)
    have p2 : (2 : Int) ^ (n - l.length) = 2 ^ (n - 1 - l.length) * 2 := by rw [show n - l.length = (n - 1 - l.length) + 1 from by omega, Int.pow_succ]
    have p3 : R.horner l * 2 ^ (n - l.length) ≤ 2 ^ l.length * 2 ^ (n - l.length) := Int.mul_le_mul_of_nonneg_right (by omega) (by omega)
    have p4 : (2 : Int) ^ l.length * 2 ^ (n - l.length) = 2 ^ n := by rw [← Int.pow_add, show l.length + (n - l.length) = n from by omega]
    have p5 : (2 : Int) ^ n ≤ 2 ^ 17 := R.two_le (by omega)
    have p6 : 0 ≤ R.horner l * 2 ^ (n - l.length) := Int.mul_nonneg h1.1 (by omega)
    have hx0 : 0 ≤ x * 2 ^ (n - 1 - l.length) ∧ x * 2 ^ (n - 1 - l.length) < 2 ^ (n - l.length) := by rcases hx with rfl | rfl <;> omega
    have := or_low IntKind.i64.bits (R.horner l) (x * 2 ^ (n - 1 - l.length)) (n - l.length) h1.1 hx0.1 hx0.2 (by omega)
    exact ⟨wrap_i64 (by omega), by rw [this, wrap_i64 (by omega)]⟩
  · simp only [if_true, R.part]
    have h1 := R.backv_bd hb
    have p0 : (0 : Int) < 2 ^ l.length := Int.pow_pos (by omega)
    have p1 : (2 : Int) ^ l.length ≤ 2 ^ 17 := R.two_le (by omega)
    have hx0 : 0 ≤ x * 2 ^ l.length ∧ x * 2 ^ l.length ≤ 2 ^ l.length := by rcases hx with rfl | rfl <;> omega
    have := or_low IntKind.i64.bits x (R.backv l) l.length (by omega) h1.1 h1.2 (by omega)
    exact ⟨wrap_i64 (by omega), by rw [BitVec.or_comm, this, wrap_i64 (by omega), Int.add_comm]⟩

/-- The function that get hands down. -/
theorem get_c1_ok {c1 c2 c3 c4 c5 : Nat} {back : Bool} {n : Nat} {y : D.A} {l : List Int} (place : Int)
    (hS : Sat E w (Dec d y.1 :: PSet p y.2 :: cel c1 ⟨75, [.pointer (some ⟨d, 0, none⟩)]⟩ :: cel c2 ⟨34, [.pointer (some ⟨p, 0, none⟩)]⟩ :: cel c3 ⟨3, [.int .i64 (R.part back n l)]⟩ :: cel c4 ⟨4, [.bool back]⟩ :: cel c5 ⟨3, [.int .i64 n]⟩ :: M))
    (hy : D.AOk y) (hb : y.1.b.length ≤ 225000000000000) (hbits : R.Bits l) (hk : l.length < n) (hn : n ≤ 16)
    (hQ : ∀ w, Sat E w (Dec d (y.1.bitQ y.2 place).1 :: PSet p (y.1.bitQ y.2 place).2.1 :: cel c1 ⟨75, [.pointer (some ⟨d, 0, none⟩)]⟩ :: cel c2 ⟨34, [.pointer (some ⟨p, 0, none⟩)]⟩ ::
      cel c3 ⟨3, [.int .i64 (R.part back n l + (y.1.bitQ y.2 place).2.2.1 * 2 ^ (if back then l.length else n - 1 - l.length))]⟩ :: cel c4 ⟨4, [.bool back]⟩ :: cel c5 ⟨3, [.int .i64 n]⟩ :: M) → Q (.tuple #[.int .i64 (y.1.bitQ y.2 place).2.2.1, .int .i64 (y.1.bitQ y.2 place).2.2.2]) w) :
    Calls Try.prog 123 #[.int .i64 place, .int .i64 l.length, .pointer (some ⟨c1, 0, none⟩), .pointer (some ⟨c2, 0, none⟩), .pointer (some ⟨c3, 0, none⟩), .pointer (some ⟨c4, 0, none⟩), .pointer (some ⟨c5, 0, none⟩)] w (retP Q) := by
  refine tree_get_c1.calls ?_
  unfold tree_get_c1.F
  have hb01 := D.bitQ_v (st := y.1) (l := y.2) (i := place)
  obtain ⟨o1, o2⟩ := part_or (back := back) hbits hk hn hb01
  have hj : (if back then l.length else n - 1 - l.length) ≤ 64 := by split <;> omega
  repeat' (first | (refine pc_rcdec_Decoder_Bit (DBit_q (hS.fd2 (Dec d) (PSet p)) hy.s hy.f hb place ?_); clear hS; intro w hS) | refine pN_l hS (by first | rfl | assumption) ?_ | refine pL_l hS (by first | rfl | assumption) ?_ | (refine pDr_go hS ?_; clear hS; intro w hS) | refine pN_via (by (intro K; simp (disch := omega) only [go_sem, pN_min, pN_max, w_u32, w_u64, Option.isNone_some, Option.isNone_none]; (try simp only [wrap_u32, wrap_u64]); rfl)) ?_ | fail)
  generalize y.1.bitQ y.2 place = r at *
  repeat' (first | refine pc_tree_order (order_ok back n l.length hk hn ?_) | (refine pA_shl_k _ rfl hj ?_; rw [o1]) | rw [pA_or, o2] | (refine pN_s hS (by first | exact Nat.le_of_ble_eq_true rfl | assumption) (by rfl) ?_; clear hS; intro w hS; try simp only [List.set_cons_zero, List.set_cons_succ] at hS) | refine ⟨trivial, ?_⟩ | refine ⟨⟨(by first | exact run_l hS (by first | rfl | assumption) | exact run_st hS (by first | rfl | omega) | exact run_ld1 ha hS | exact fun _ => run_l hS (by rfl) | exact fun _ => run_st hS (by first | rfl | omega) | exact fun _ => run_ld1 ha hS | exact fun h => Bool.noConfusion h), trivial⟩, ?_⟩ | fail)
  exact hQ _ hS.to

theorem get_ok {z : D.A} (hS : Sat E w (Dec d z.1 :: PSet p z.2 :: M)) (hz : D.AOk z) (hb : z.1.b.length ≤ 225000000000000) (hl : z.2.length ≤ 1048576) (at_ n : Int) (back : Bool)
    (hQ : ∀ w, Sat E w (Dec d (D.gets z at_ n back).1.1 :: PSet p (D.gets z at_ n back).1.2 :: M) → Q (.tuple #[.int .i64 (D.gets z at_ n back).2.1, .int .i64 (D.gets z at_ n back).2.2]) w) :
    Calls Try.prog 118 #[.pointer (some ⟨d, 0, none⟩), .pointer (some ⟨p, 0, none⟩), .int .i64 at_, .int .i64 n, .bool back] w (retP Q) := by
  refine tree_get.calls ?_
  unfold tree_get.F
  refine pN_bx hS (by rfl) fun c1 w hS => ?_
  refine pN_bx hS (by rfl) fun c2 w hS => ?_
  refine pN_bx hS (by rfl) fun c5 w hS => ?_
  refine pN_bx hS (by rfl) fun c4 w hS => ?_
  by_cases ht : R.There z.2.length at_ n
  rotate_left 1
  · have t1 : decide (R.There z.2.length at_ n) = false := decide_eq_false ht
    simp only [D.gets, if_neg ht] at hQ
    repeat' (first | (refine pc_tree_there (there_ok (hS.fd (PSet p)) _ _ ?_); rw [t1]; clear hS; intro w hS) | refine pIf_t ?_ | refine pN_l hS (by first | rfl | assumption) ?_ | refine pN_via (by (intro K; simp (disch := omega) only [go_sem, pN_min, pN_max, w_u32, w_u64, Option.isNone_some, Option.isNone_none]; (try simp only [wrap_u32, wrap_u64]); rfl)) ?_ | fail)
    exact hQ _ hS.to
  have t1 : decide (R.There z.2.length at_ n) = true := decide_eq_true ht
  simp only [D.gets, if_pos ht] at hQ
  obtain ⟨n0, n1, a0, a1, a2⟩ := ht
  obtain ⟨n, rfl⟩ : ∃ m : Nat, n = m := ⟨n.toNat, by omega⟩
  rw [Int.toNat_natCast] at hQ a2
  repeat' (first | (refine pc_tree_there (there_ok (hS.fd (PSet p)) _ _ ?_); rw [t1]; clear hS; intro w hS) | (refine pN_nz hS ?_; clear hS; intro c3 w hS) | refine pIf_f ?_ | refine pN_l hS (by first | rfl | assumption) ?_ | (refine pN_s hS (by first | exact Nat.le_of_ble_eq_true rfl | assumption) (by rfl) ?_; clear hS; intro w hS; try simp only [List.set_cons_zero, List.set_cons_succ] at hS) | refine pN_fn ?_ | refine pN_via (by (intro K; simp (disch := omega) only [go_sem, pN_min, pN_max, w_u32, w_u64, Option.isNone_some, Option.isNone_none]; (try simp only [wrap_u32, wrap_u64]); rfl)) ?_ | fail)
  have hp0 : R.part back n [] = 0 := by cases back <;> simp [R.part, R.backv, R.horner]
  refine pc_tree_down (downG_ok at_ n _ z hz (by omega) a0 (by omega)
    (fun y l w => Sat E w (Dec d y.1 :: PSet p y.2 :: cel c1 ⟨75, [.pointer (some ⟨d, 0, none⟩)]⟩ :: cel c2 ⟨34, [.pointer (some ⟨p, 0, none⟩)]⟩ :: cel c3 ⟨3, [.int .i64 (R.part back n l)]⟩ :: cel c4 ⟨4, [.bool back]⟩ :: cel c5 ⟨3, [.int .i64 n]⟩ :: M)) (by rw [hp0]; exact hS.to) ?_ ?_)
  · intro y l w K hy hyz hbits hln hS h1 h2
    refine pv_tree_get_c1 (get_c1_ok (at_ + R.nodeL l) hS hy (by rw [hyz.b]; exact hb) hbits hln (by omega) fun w hS => ?_)
    rw [← R.part_snoc back hln] at hS
    by_cases h0 : (y.1.bitQ y.2 (at_ + R.nodeL l)).2.2.2 = 0
    · rw [h0]
      exact h1 w h0 hS
    · obtain ⟨e1, e2⟩ := D.bitQ_no h0
      have e3 : (y.1.bitQ y.2 (at_ + R.nodeL l)).2.2.1 = 0 := D.bitQ_v0 h0
      refine h2 w h0 ?_
      rw [e1, e2, R.part_snoc back hln, e3, Int.zero_mul, Int.add_zero] at hS
      exact hS
  · intro w hS
    have hok := D.walk_ok (at_ := at_) hz n
    by_cases h0 : (D.walk at_ z n).2.2 = 0
    · have hlen := hok.2.2.2 h0
      have hpe := R.part_end back (D.walk at_ z n).2.1
      rw [hlen] at hpe
      simp only [h0, if_true] at hQ ⊢
      rw [hpe] at hS
      repeat' (first | (refine pN_neq_s ?_ ?_ <;> intro hc <;> try (exfalso; first | omega | exact hc rfl | exact hc (by assumption) | exact absurd hc (by assumption))) | refine pIf_f ?_ | refine pN_l hS (by first | rfl | assumption) ?_ | fail)
      exact hQ _ hS.to
    · simp only [if_neg h0] at hQ
      repeat' (first | (refine pN_neq_s ?_ ?_ <;> intro hc <;> try (exfalso; first | omega | exact hc rfl | exact hc (by assumption) | exact absurd hc (by assumption))) | refine pIf_t ?_ | fail)
      exact hQ _ hS.to

theorem Get_ok {z : D.A} (hS : Sat E w (Dec d z.1 :: PSet p z.2 :: M)) (hz : D.AOk z) (hb : z.1.b.length ≤ 225000000000000) (hl : z.2.length ≤ 1048576) (at_ n : Int)
    (hQ : ∀ w, Sat E w (Dec d (D.gets z at_ n false).1.1 :: PSet p (D.gets z at_ n false).1.2 :: M) → Q (.tuple #[.int .i64 (D.gets z at_ n false).2.1, .int .i64 (D.gets z at_ n false).2.2]) w) :
    Calls Try.prog 101 #[.pointer (some ⟨d, 0, none⟩), .pointer (some ⟨p, 0, none⟩), .int .i64 at_, .int .i64 n] w (retP Q) := by
  refine tree_Get.calls ?_
  unfold tree_Get.F
  refine pc_tree_get (get_ok hS hz hb hl at_ n false fun w hS => ?_)
  repeat' (first | refine pN_via (by (intro K; simp (disch := omega) only [go_sem, pN_min, pN_max, w_u32, w_u64, Option.isNone_some, Option.isNone_none]; (try simp only [wrap_u32, wrap_u64]); rfl)) ?_ | fail)
  exact hQ w hS
theorem GetBack_ok {z : D.A} (hS : Sat E w (Dec d z.1 :: PSet p z.2 :: M)) (hz : D.AOk z) (hb : z.1.b.length ≤ 225000000000000) (hl : z.2.length ≤ 1048576) (at_ n : Int)
    (hQ : ∀ w, Sat E w (Dec d (D.gets z at_ n true).1.1 :: PSet p (D.gets z at_ n true).1.2 :: M) → Q (.tuple #[.int .i64 (D.gets z at_ n true).2.1, .int .i64 (D.gets z at_ n true).2.2]) w) :
    Calls Try.prog 103 #[.pointer (some ⟨d, 0, none⟩), .pointer (some ⟨p, 0, none⟩), .int .i64 at_, .int .i64 n] w (retP Q) := by
  refine tree_GetBack.calls ?_
  unfold tree_GetBack.F
  refine pc_tree_get (get_ok hS hz hb hl at_ n true fun w hS => ?_)
  repeat' (first | refine pN_via (by (intro K; simp (disch := omega) only [go_sem, pN_min, pN_max, w_u32, w_u64, Option.isNone_some, Option.isNone_none]; (try simp only [wrap_u32, wrap_u64]); rfl)) ?_ | fail)
  exact hQ w hS
end

end Go.Proofs.Ytoejaggkedlfmaa

namespace Go.Proofs.Ytoejaggkedlfmaa
open Go
set_option linter.unusedSimpArgs false
set_option linter.unnecessarySimpa false
set_option linter.unusedSectionVars false
set_option linter.unusedVariables false
attribute [local irreducible] oMv oV oU oCall oCallV oBi oBin oUn oLoad oStore oNil oFld oField oIdx oIndex oPick oAlloc oBox oBuild oBs oConv oMk oSl oExt oFn oIface oMap oLook oMapUp oRange oNext oAssert oPanic oRes pN pA pL pDr pIf gA pGd Calls

theorem low_shift (v : Int) (n : Nat) (v0 : 0 ≤ v) (hn : n ≤ 32) : v * 2 ^ (32 - n) % 4294967296 / 2 ^ (32 - n) = v % 2 ^ n := by
  have e : (4294967296 : Int) = 2 ^ n * 2 ^ (32 - n) := by rw [← Int.pow_add, show n + (32 - n) = 32 from by omega]; decide
  have p : (0 : Int) < 2 ^ (32 - n) := Int.pow_pos (by omega)
  rw [e, Int.mul_comm v, Int.mul_comm (2 ^ n), Int.mul_emod_mul_of_pos _ _ p, Int.mul_ediv_cancel_left _ (by omega)]

section
variable {E w : World} {M : List HA} {Q : Value → World → Prop} {b : Nat} {ps : List (Nat × Nat)} {ls : List (List Int)} {l : List Int}

theorem given_end {e i : Nat} {st : R.S} {s t : Sl} {p r : Nat} {m : List Int} (hS : Sat E w (cel b ⟨130, [.slice s.a ps.length s.c, .slice t.a ps.length t.c]⟩ :: rows cd_p_prob_Set s (ps.map ptrP) :: rows cd_p_pithref06_Set t (ps.map ptrR) ::
    PSet p m :: bag (((ps.zip ls).map fun x => PSet x.1.1 x.2).eraseIdx i) :: Enc e st :: M)) (hp : ps[i]? = some (p, r)) (hl : ls[i]? = some l) : Sat E w (Hdr b ps :: bagP ps (ls.set i m) :: Enc e st :: M) := by
  have h1 := Hdr.shut hS
  have h2 : Sat E w (PSet (p, r).1 m :: bag (((ps.zip ls).map fun x => PSet x.1.1 x.2).eraseIdx i) :: Hdr b ps :: Enc e st :: M) := h1.to
  have h3 := bagP.into h2 hp hl
  exact h3.to
theorem got_end {e i : Nat} {st : D.S} {s t : Sl} {p r : Nat} {m : List Int} (hS : Sat E w (cel b ⟨130, [.slice s.a ps.length s.c, .slice t.a ps.length t.c]⟩ :: rows cd_p_prob_Set s (ps.map ptrP) :: rows cd_p_pithref06_Set t (ps.map ptrR) ::
    PSet p m :: bag (((ps.zip ls).map fun x => PSet x.1.1 x.2).eraseIdx i) :: Dec e st :: M)) (hp : ps[i]? = some (p, r)) (hl : ls[i]? = some l) : Sat E w (Hdr b ps :: bagP ps (ls.set i m) :: Dec e st :: M) := by
  have h1 := Hdr.shut hS
  have h2 : Sat E w (PSet (p, r).1 m :: bag (((ps.zip ls).map fun x => PSet x.1.1 x.2).eraseIdx i) :: Hdr b ps :: Dec e st :: M) := h1.to
  have h3 := bagP.into h2 hp hl
  exact h3.to
theorem set_self {i : Nat} (hl : ls[i]? = some l) : ls.set i l = ls := by
  apply List.ext_getElem?
  intro j
  rw [List.getElem?_set]
  split
  · rename_i h; subst h; rw [if_pos (List.getElem?_eq_some_iff.1 hl).1, hl]
  · rfl

set_option maxHeartbeats 4000000 in
theorem given_ok {e : Nat} {st : R.S} (hS : Sat E w (Hdr b ps :: bagP ps ls :: Enc e st :: M)) (hp : 0 < ps.length) (hls : ls.length = ps.length) (ho : MOk (st, ls)) (hsml : ∀ l ∈ ls, l.length ≤ 4096) (hk : st.k + 200 ≤ 140737488355328) (kind row at_ n v : Int)
    (hno : took (st, ls) ⟨kind, row, at_, n, v⟩ = none → ∀ w, Sat E w (Hdr b ps :: bagP ps ls :: Enc e st :: M) → Q (.bool false) w)
    (hok : ∀ m w, took (st, ls) ⟨kind, row, at_, n, v⟩ = some m → Sat E w (Hdr b ps :: bagP ps m.2 :: Enc e m.1 :: M) → Q (.bool true) w) :
    Calls Try.prog 72 #[.pointer (some ⟨b, 0, none⟩), .pointer (some ⟨e, 0, none⟩), .agg #[.int .i64 kind, .int .i64 row, .int .i64 at_, .int .i64 n, .int .i64 v]] w (retP Q) := by
  refine pithlaw09_rows_given.calls ?_
  unfold pithlaw09_rows_given.F
  obtain ⟨⟨s, t⟩, hS⟩ := Hdr.opn hS
  have hi := rowOf_lt row hp
  obtain ⟨⟨p, r⟩, hpr⟩ : ∃ y, ps[rowOf row ps.length]? = some y := ⟨ps[rowOf row ps.length]'hi, by simp⟩
  obtain ⟨l, hl⟩ : ∃ y, ls[rowOf row ps.length]? = some y := ⟨ls[rowOf row ps.length]'(by omega), by simp [hls, hi]⟩
  have hx1 : (ps.map ptrP)[rowOf row ps.length]? = some (some ⟨p, 0, none⟩) := by rw [List.getElem?_map, hpr]; rfl
  have hlen1 : (ps.map ptrP).length = ps.length := List.length_map _
  have hS := bagP.out (hS.fd (bagP ps)) hpr hl
  dsimp only at hS
  have hf := ho.f l (List.mem_of_getElem? hl)
  have hos : R.Ok st := ho.s
  have hsm := hsml l (List.mem_of_getElem? hl)
  have htk : took (st, ls) ⟨kind, row, at_, n, v⟩ = (R.TS.step ⟨st, l⟩ ⟨kind, row, at_, n, v⟩).map fun t => (t.s, ls.set (rowOf row ps.length) t.l) := by
    simp only [took, hls, List.getD_eq_getElem?_getD, hl, Option.getD_some]
  rw [htk] at hno hok
  have hno : R.TS.step ⟨st, l⟩ ⟨kind, row, at_, n, v⟩ = none → ∀ w, Sat E w (cel b ⟨130, [.slice s.a ps.length s.c, .slice t.a ps.length t.c]⟩ :: rows cd_p_prob_Set s (ps.map ptrP) :: rows cd_p_pithref06_Set t (ps.map ptrR) ::
      PSet p l :: bag (((ps.zip ls).map fun x => PSet x.1.1 x.2).eraseIdx (rowOf row ps.length)) :: Enc e st :: M) → Q (.bool false) w := fun h w hS => hno (by rw [h]; rfl) w (by
    have := given_end (s := s) (t := t) hS hpr hl
    rw [set_self hl] at this
    exact this)
  have hok : ∀ a w, R.TS.step ⟨st, l⟩ ⟨kind, row, at_, n, v⟩ = some a → Sat E w (cel b ⟨130, [.slice s.a ps.length s.c, .slice t.a ps.length t.c]⟩ :: rows cd_p_prob_Set s (ps.map ptrP) :: rows cd_p_pithref06_Set t (ps.map ptrR) ::
      PSet p a.l :: bag (((ps.zip ls).map fun x => PSet x.1.1 x.2).eraseIdx (rowOf row ps.length)) :: Enc e a.s :: M) → Q (.bool true) w := fun a w h hS => hok (a.s, ls.set (rowOf row ps.length) a.l) w (by rw [h]; rfl) (given_end (s := s) (t := t) hS hpr hl)
  clear htk
  unfold R.TS.step at hno hok
  dsimp only at hno hok
  have hcv : ∀ w, Sem.run Try.prog (oConv 3 26 (.int .i64 v)) w = .ok (.value (.int .u32 (v % 4294967296))) w := fun w => by
    rw [← wrap_u32]; exact run_conv_int .i64 Try.underlying3 Try.underlying26 v
  by_cases k0 : kind = 0
  · subst k0
    by_cases hin : R.There l.length at_ n ∧ R.Holds v n
    · simp only [if_true, if_pos hin] at hok
      repeat' (first | (refine pc_pithlaw09_rows_of (of_ok (hS.fd (cel b)) _ _ _ _ _ ?_); clear hS; intro w hS) | (refine pc_tree_Put (Put_in (hS.fd2 (Enc e) (PSet p)) hos hf (by omega) at_ n v (by omega) hin.1 hin.2 ?_); clear hS; intro w hS) | (refine pN_eql_s ?_ ?_ <;> intro hc <;> try (exfalso; first | omega | exact hc rfl | exact hc (by assumption) | exact absurd hc (by assumption))) | refine pIf_t ?_ | refine pN_l hS (by first | rfl | assumption) ?_ | refine pL_l hS (by first | rfl | assumption) ?_ | refine pL_ld1 ha hS ?_ | refine pL_la hS (by rfl) ?_ | (refine pDr_go hS ?_; clear hS; intro w hS) | (refine pN_bx hS (by rfl) ?_; clear hS; intro a w hS) | refine ⟨⟨(by first | exact run_l hS (by first | rfl | assumption) | exact run_st hS (by first | rfl | omega) | exact run_ld1 ha hS | exact fun _ => run_l hS (by rfl) | exact fun _ => run_st hS (by first | rfl | omega) | exact fun _ => run_ld1 ha hS | exact fun h => Bool.noConfusion h), trivial⟩, ?_⟩ | refine pA_ixk hS _ (by first | rfl | (exact (Int.toNat_of_nonneg (by omega)).symm)) (by first | rfl | omega | simpa only [go_sem] using True.intro | (simp only [go_sem]; omega)) (by assumption) fun a ha hel => ?_ | refine pN_via (by (intro K; simp (disch := omega) only [go_sem, pN_min, pN_max, w_u32, w_u64, Option.isNone_some, Option.isNone_none]; (try simp only [wrap_u32, wrap_u64]); rfl)) ?_ | refine pA_via (by (intro K; simp (disch := omega) only [go_sem, pN_min, pN_max, w_u32, w_u64, Option.isNone_some, Option.isNone_none]; (try simp only [wrap_u32, wrap_u64]); rfl)) ?_ | fail)
      exact hok (R.TS.put ⟨st, l⟩ at_ (R.bitAt false n.toNat v) n.toNat) _ rfl hS.to
    · simp only [if_true, if_neg hin] at hno
      repeat' (first | (refine pc_pithlaw09_rows_of (of_ok (hS.fd (cel b)) _ _ _ _ _ ?_); clear hS; intro w hS) | (refine pc_tree_Put (Put_ok (hS.fd2 (Enc e) (PSet p)) hos hf (by omega) at_ n v (by omega) ?_); clear hS; intro w hS; simp only [if_neg hin] at hS ⊢) | (refine pN_eql_s ?_ ?_ <;> intro hc <;> try (exfalso; first | omega | exact hc rfl | exact hc (by assumption) | exact absurd hc (by assumption))) | refine pIf_t ?_ | refine pN_l hS (by first | rfl | assumption) ?_ | refine pL_l hS (by first | rfl | assumption) ?_ | refine pL_ld1 ha hS ?_ | refine pL_la hS (by rfl) ?_ | (refine pDr_go hS ?_; clear hS; intro w hS) | (refine pN_bx hS (by rfl) ?_; clear hS; intro a w hS) | refine ⟨⟨(by first | exact run_l hS (by first | rfl | assumption) | exact run_st hS (by first | rfl | omega) | exact run_ld1 ha hS | exact fun _ => run_l hS (by rfl) | exact fun _ => run_st hS (by first | rfl | omega) | exact fun _ => run_ld1 ha hS | exact fun h => Bool.noConfusion h), trivial⟩, ?_⟩ | refine pA_ixk hS _ (by first | rfl | (exact (Int.toNat_of_nonneg (by omega)).symm)) (by first | rfl | omega | simpa only [go_sem] using True.intro | (simp only [go_sem]; omega)) (by assumption) fun a ha hel => ?_ | refine pN_via (by (intro K; simp (disch := omega) only [go_sem, pN_min, pN_max, w_u32, w_u64, Option.isNone_some, Option.isNone_none]; (try simp only [wrap_u32, wrap_u64]); rfl)) ?_ | refine pA_via (by (intro K; simp (disch := omega) only [go_sem, pN_min, pN_max, w_u32, w_u64, Option.isNone_some, Option.isNone_none]; (try simp only [wrap_u32, wrap_u64]); rfl)) ?_ | fail)
      exact hno trivial _ hS.to
  rw [if_neg k0] at hno hok
  by_cases k1 : kind = 1
  · subst k1
    by_cases hin : R.There l.length at_ n ∧ R.Holds v n
    · simp only [if_true, if_pos hin] at hok
      repeat' (first | (refine pc_pithlaw09_rows_of (of_ok (hS.fd (cel b)) _ _ _ _ _ ?_); clear hS; intro w hS) | (refine pc_tree_PutBack (PutBack_in (hS.fd2 (Enc e) (PSet p)) hos hf (by omega) at_ n v (by omega) hin.1 hin.2 ?_); clear hS; intro w hS) | (refine pN_eql_s ?_ ?_ <;> intro hc <;> try (exfalso; first | omega | exact hc rfl | exact hc (by assumption) | exact absurd hc (by assumption))) | refine pIf_t ?_ | refine pIf_f ?_ | refine pN_l hS (by first | rfl | assumption) ?_ | refine pL_l hS (by first | rfl | assumption) ?_ | refine pL_ld1 ha hS ?_ | refine pL_la hS (by rfl) ?_ | (refine pDr_go hS ?_; clear hS; intro w hS) | (refine pN_bx hS (by rfl) ?_; clear hS; intro a w hS) | refine ⟨⟨(by first | exact run_l hS (by first | rfl | assumption) | exact run_st hS (by first | rfl | omega) | exact run_ld1 ha hS | exact fun _ => run_l hS (by rfl) | exact fun _ => run_st hS (by first | rfl | omega) | exact fun _ => run_ld1 ha hS | exact fun h => Bool.noConfusion h), trivial⟩, ?_⟩ | refine pA_ixk hS _ (by first | rfl | (exact (Int.toNat_of_nonneg (by omega)).symm)) (by first | rfl | omega | simpa only [go_sem] using True.intro | (simp only [go_sem]; omega)) (by assumption) fun a ha hel => ?_ | refine pN_via (by (intro K; simp (disch := omega) only [go_sem, pN_min, pN_max, w_u32, w_u64, Option.isNone_some, Option.isNone_none]; (try simp only [wrap_u32, wrap_u64]); rfl)) ?_ | refine pA_via (by (intro K; simp (disch := omega) only [go_sem, pN_min, pN_max, w_u32, w_u64, Option.isNone_some, Option.isNone_none]; (try simp only [wrap_u32, wrap_u64]); rfl)) ?_ | fail)
      exact hok (R.TS.put ⟨st, l⟩ at_ (R.bitAt true n.toNat v) n.toNat) _ rfl hS.to
    · simp only [if_true, if_neg hin] at hno
      repeat' (first | (refine pc_pithlaw09_rows_of (of_ok (hS.fd (cel b)) _ _ _ _ _ ?_); clear hS; intro w hS) | (refine pc_tree_PutBack (PutBack_ok (hS.fd2 (Enc e) (PSet p)) hos hf (by omega) at_ n v (by omega) ?_); clear hS; intro w hS; simp only [if_neg hin] at hS ⊢) | (refine pN_eql_s ?_ ?_ <;> intro hc <;> try (exfalso; first | omega | exact hc rfl | exact hc (by assumption) | exact absurd hc (by assumption))) | refine pIf_t ?_ | refine pIf_f ?_ | refine pN_l hS (by first | rfl | assumption) ?_ | refine pL_l hS (by first | rfl | assumption) ?_ | refine pL_ld1 ha hS ?_ | refine pL_la hS (by rfl) ?_ | (refine pDr_go hS ?_; clear hS; intro w hS) | (refine pN_bx hS (by rfl) ?_; clear hS; intro a w hS) | refine ⟨⟨(by first | exact run_l hS (by first | rfl | assumption) | exact run_st hS (by first | rfl | omega) | exact run_ld1 ha hS | exact fun _ => run_l hS (by rfl) | exact fun _ => run_st hS (by first | rfl | omega) | exact fun _ => run_ld1 ha hS | exact fun h => Bool.noConfusion h), trivial⟩, ?_⟩ | refine pA_ixk hS _ (by first | rfl | (exact (Int.toNat_of_nonneg (by omega)).symm)) (by first | rfl | omega | simpa only [go_sem] using True.intro | (simp only [go_sem]; omega)) (by assumption) fun a ha hel => ?_ | refine pN_via (by (intro K; simp (disch := omega) only [go_sem, pN_min, pN_max, w_u32, w_u64, Option.isNone_some, Option.isNone_none]; (try simp only [wrap_u32, wrap_u64]); rfl)) ?_ | refine pA_via (by (intro K; simp (disch := omega) only [go_sem, pN_min, pN_max, w_u32, w_u64, Option.isNone_some, Option.isNone_none]; (try simp only [wrap_u32, wrap_u64]); rfl)) ?_ | fail)
      exact hno trivial _ hS.to
  rw [if_neg k1] at hno hok
  by_cases k3 : kind = 3
  · subst k3
    by_cases hin : 0 ≤ at_ ∧ at_ < l.length
    · simp only [if_true, if_pos hin] at hok
      have hx : l[at_.toNat]? = some (l.getD at_.toNat 0) := by
        rw [List.getD_eq_getElem?_getD, List.getElem?_eq_getElem (show at_.toNat < l.length by omega)]; rfl
      repeat' (first | (refine pc_pithlaw09_rows_of (of_ok (hS.fd (cel b)) _ _ _ _ _ ?_); clear hS; intro w hS) | (refine pc_rcenc_Encoder_Bit (Bit_in (hS.fd2 (Enc e) (PSet p)) hf (by omega) at_ v hin.1 hx ?_); clear hS; intro w hS) | (refine pN_eql_s ?_ ?_ <;> intro hc <;> try (exfalso; first | omega | exact hc rfl | exact hc (by assumption) | exact absurd hc (by assumption))) | refine pIf_t ?_ | refine pIf_f ?_ | refine pN_l hS (by first | rfl | assumption) ?_ | refine pL_l hS (by first | rfl | assumption) ?_ | refine pL_ld1 ha hS ?_ | refine pL_la hS (by rfl) ?_ | (refine pDr_go hS ?_; clear hS; intro w hS) | (refine pN_bx hS (by rfl) ?_; clear hS; intro a w hS) | refine ⟨⟨(by first | exact run_l hS (by first | rfl | assumption) | exact run_st hS (by first | rfl | omega) | exact run_ld1 ha hS | exact fun _ => run_l hS (by rfl) | exact fun _ => run_st hS (by first | rfl | omega) | exact fun _ => run_ld1 ha hS | exact fun h => Bool.noConfusion h), trivial⟩, ?_⟩ | refine pA_ixk hS _ (by first | rfl | (exact (Int.toNat_of_nonneg (by omega)).symm)) (by first | rfl | omega | simpa only [go_sem] using True.intro | (simp only [go_sem]; omega)) (by assumption) fun a ha hel => ?_ | refine pN_via (by (intro K; simp (disch := omega) only [go_sem, pN_min, pN_max, w_u32, w_u64, Option.isNone_some, Option.isNone_none]; (try simp only [wrap_u32, wrap_u64]); rfl)) ?_ | refine pA_via (by (intro K; simp (disch := omega) only [go_sem, pN_min, pN_max, w_u32, w_u64, Option.isNone_some, Option.isNone_none]; (try simp only [wrap_u32, wrap_u64]); rfl)) ?_ | fail)
      exact hok ⟨st.cut (B.bound st.R (l.getD at_.toNat 0)) v, l.set at_.toNat (B.next (l.getD at_.toNat 0) v)⟩ _ rfl hS.to
    · simp only [if_true, if_neg hin] at hno
      repeat' (first | (refine pc_pithlaw09_rows_of (of_ok (hS.fd (cel b)) _ _ _ _ _ ?_); clear hS; intro w hS) | (refine pc_rcenc_Encoder_Bit (Bit_no (hS.fd2 (Enc e) (PSet p)) hf (by omega) at_ v hin ?_); clear hS; intro w hS) | (refine pN_eql_s ?_ ?_ <;> intro hc <;> try (exfalso; first | omega | exact hc rfl | exact hc (by assumption) | exact absurd hc (by assumption))) | refine pIf_t ?_ | refine pIf_f ?_ | refine pN_l hS (by first | rfl | assumption) ?_ | refine pL_l hS (by first | rfl | assumption) ?_ | refine pL_ld1 ha hS ?_ | refine pL_la hS (by rfl) ?_ | (refine pDr_go hS ?_; clear hS; intro w hS) | (refine pN_bx hS (by rfl) ?_; clear hS; intro a w hS) | refine ⟨⟨(by first | exact run_l hS (by first | rfl | assumption) | exact run_st hS (by first | rfl | omega) | exact run_ld1 ha hS | exact fun _ => run_l hS (by rfl) | exact fun _ => run_st hS (by first | rfl | omega) | exact fun _ => run_ld1 ha hS | exact fun h => Bool.noConfusion h), trivial⟩, ?_⟩ | refine pA_ixk hS _ (by first | rfl | (exact (Int.toNat_of_nonneg (by omega)).symm)) (by first | rfl | omega | simpa only [go_sem] using True.intro | (simp only [go_sem]; omega)) (by assumption) fun a ha hel => ?_ | refine pN_via (by (intro K; simp (disch := omega) only [go_sem, pN_min, pN_max, w_u32, w_u64, Option.isNone_some, Option.isNone_none]; (try simp only [wrap_u32, wrap_u64]); rfl)) ?_ | refine pA_via (by (intro K; simp (disch := omega) only [go_sem, pN_min, pN_max, w_u32, w_u64, Option.isNone_some, Option.isNone_none]; (try simp only [wrap_u32, wrap_u64]); rfl)) ?_ | fail)
      exact hno trivial _ hS.to
  rw [if_neg k3] at hno hok
  by_cases k4 : kind = 4
  · subst k4
    by_cases hin : 0 ≤ n ∧ n ≤ 32
    · simp only [if_true, if_pos hin] at hok
      obtain ⟨n, rfl⟩ : ∃ m : Nat, n = m := ⟨n.toNat, by omega⟩
      rw [Int.toNat_natCast] at hok
      repeat' (first | (refine pc_pithlaw09_rows_of (of_ok (hS.fd (cel b)) _ _ _ _ _ ?_); clear hS; intro w hS) | (refine pc_rcenc_Encoder_Direct (Direct_in (hS.fd (Enc e)) (by omega) _ n (by omega) (by omega) (by omega) ?_); clear hS; intro w hS) | (refine pN_eql_s ?_ ?_ <;> intro hc <;> try (exfalso; first | omega | exact hc rfl | exact hc (by assumption) | exact absurd hc (by assumption))) | refine pIf_t ?_ | refine pIf_f ?_ | refine pN_l hS (by first | rfl | assumption) ?_ | refine pL_l hS (by first | rfl | assumption) ?_ | refine pL_ld1 ha hS ?_ | refine pL_la hS (by rfl) ?_ | (refine pDr_go hS ?_; clear hS; intro w hS) | (refine pN_bx hS (by rfl) ?_; clear hS; intro a w hS) | refine ⟨⟨(by first | exact run_l hS (by first | rfl | assumption) | exact run_st hS (by first | rfl | omega) | exact run_ld1 ha hS | exact fun _ => run_l hS (by rfl) | exact fun _ => run_st hS (by first | rfl | omega) | exact fun _ => run_ld1 ha hS | exact fun h => Bool.noConfusion h), trivial⟩, ?_⟩ | refine pA_ixk hS _ (by first | rfl | (exact (Int.toNat_of_nonneg (by omega)).symm)) (by first | rfl | omega | simpa only [go_sem] using True.intro | (simp only [go_sem]; omega)) (by assumption) fun a ha hel => ?_ | refine pN_via (by (intro K; simp (disch := omega) only [go_sem, pN_min, pN_max, w_u32, w_u64, Option.isNone_some, Option.isNone_none]; (try simp only [wrap_u32, wrap_u64]); rfl)) ?_ | refine pA_via (by (intro K; simp (disch := omega) only [go_sem, pN_min, pN_max, w_u32, w_u64, Option.isNone_some, Option.isNone_none]; (try simp only [wrap_u32, wrap_u64]); rfl)) ?_ | fail)
      exact hok ⟨st.direct (v % 4294967296) n, l⟩ _ rfl hS.to
    · simp only [if_true, if_neg hin] at hno
      repeat' (first | (refine pc_pithlaw09_rows_of (of_ok (hS.fd (cel b)) _ _ _ _ _ ?_); clear hS; intro w hS) | (refine pc_rcenc_Encoder_Direct (Direct_no (hS.fd (Enc e)) (by omega) _ n (by omega) (by omega) hin ?_); clear hS; intro w hS) | (refine pN_eql_s ?_ ?_ <;> intro hc <;> try (exfalso; first | omega | exact hc rfl | exact hc (by assumption) | exact absurd hc (by assumption))) | refine pIf_t ?_ | refine pIf_f ?_ | refine pN_l hS (by first | rfl | assumption) ?_ | refine pL_l hS (by first | rfl | assumption) ?_ | refine pL_ld1 ha hS ?_ | refine pL_la hS (by rfl) ?_ | (refine pDr_go hS ?_; clear hS; intro w hS) | (refine pN_bx hS (by rfl) ?_; clear hS; intro a w hS) | refine ⟨⟨(by first | exact run_l hS (by first | rfl | assumption) | exact run_st hS (by first | rfl | omega) | exact run_ld1 ha hS | exact fun _ => run_l hS (by rfl) | exact fun _ => run_st hS (by first | rfl | omega) | exact fun _ => run_ld1 ha hS | exact fun h => Bool.noConfusion h), trivial⟩, ?_⟩ | refine pA_ixk hS _ (by first | rfl | (exact (Int.toNat_of_nonneg (by omega)).symm)) (by first | rfl | omega | simpa only [go_sem] using True.intro | (simp only [go_sem]; omega)) (by assumption) fun a ha hel => ?_ | refine pN_via (by (intro K; simp (disch := omega) only [go_sem, pN_min, pN_max, w_u32, w_u64, Option.isNone_some, Option.isNone_none]; (try simp only [wrap_u32, wrap_u64]); rfl)) ?_ | refine pA_via (by (intro K; simp (disch := omega) only [go_sem, pN_min, pN_max, w_u32, w_u64, Option.isNone_some, Option.isNone_none]; (try simp only [wrap_u32, wrap_u64]); rfl)) ?_ | fail)
      exact hno trivial _ hS.to
  rw [if_neg k4] at hno
  repeat' (first | (refine pc_pithlaw09_rows_of (of_ok (hS.fd (cel b)) _ _ _ _ _ ?_); clear hS; intro w hS) | (refine pN_eql_s ?_ ?_ <;> intro hc <;> try (exfalso; first | omega | exact hc rfl | exact hc (by assumption) | exact absurd hc (by assumption))) | refine pIf_f ?_ | refine pN_l hS (by first | rfl | assumption) ?_ | refine pL_l hS (by first | rfl | assumption) ?_ | refine pL_ld1 ha hS ?_ | refine pL_la hS (by rfl) ?_ | (refine pDr_go hS ?_; clear hS; intro w hS) | (refine pN_bx hS (by rfl) ?_; clear hS; intro a w hS) | refine ⟨⟨(by first | exact run_l hS (by first | rfl | assumption) | exact run_st hS (by first | rfl | omega) | exact run_ld1 ha hS | exact fun _ => run_l hS (by rfl) | exact fun _ => run_st hS (by first | rfl | omega) | exact fun _ => run_ld1 ha hS | exact fun h => Bool.noConfusion h), trivial⟩, ?_⟩ | refine pA_ixk hS _ (by first | rfl | (exact (Int.toNat_of_nonneg (by omega)).symm)) (by first | rfl | omega | simpa only [go_sem] using True.intro | (simp only [go_sem]; omega)) (by assumption) fun a ha hel => ?_ | refine pN_via (by (intro K; simp (disch := omega) only [go_sem, pN_min, pN_max, w_u32, w_u64, Option.isNone_some, Option.isNone_none]; (try simp only [wrap_u32, wrap_u64]); rfl)) ?_ | refine pA_via (by (intro K; simp (disch := omega) only [go_sem, pN_min, pN_max, w_u32, w_u64, Option.isNone_some, Option.isNone_none]; (try simp only [wrap_u32, wrap_u64]); rfl)) ?_ | fail)
  exact hno rfl _ hS.to

theorem bit_is (v : Int) (hQ : Q (.int .i64 (if v = 0 then 0 else 1)) w) : Calls Try.prog 104 #[.int .i64 v] w (retP Q) := by
  refine pithlaw09_bit.calls ?_
  unfold pithlaw09_bit.F
  by_cases h : v = 0
  · rw [if_pos h] at hQ
    repeat' (first | (refine pN_eql_s ?_ ?_ <;> intro hc <;> try (exfalso; first | omega | exact hc rfl | exact hc (by assumption) | exact absurd hc (by assumption))) | refine pIf_t ?_ | fail)
    exact hQ
  · rw [if_neg h] at hQ
    repeat' (first | (refine pN_eql_s ?_ ?_ <;> intro hc <;> try (exfalso; first | omega | exact hc rfl | exact hc (by assumption) | exact absurd hc (by assumption))) | refine pIf_f ?_ | fail)
    exact hQ

set_option maxHeartbeats 4000000 in
theorem got_ok {d : Nat} {st st' : D.S} {l l' : List Int} (hS : Sat E w (Hdr b ps :: bagP ps ls :: Dec d st :: M)) (hp : 0 < ps.length) (hls : ls.length = ps.length) (kind row at_ n v : Int) (hl : ls[rowOf row ps.length]? = some l) (hz : D.AOk (st, l)) (hb : st.b.length ≤ 225000000000000) (hsm : l.length ≤ 4096)
    (hg : D.Gives st l ⟨kind, row, at_, n, v⟩ st' l')
    (hQ : ∀ w, Sat E w (Hdr b ps :: bagP ps (ls.set (rowOf row ps.length) l') :: Dec d st' :: M) → Q (.bool true) w) :
    Calls Try.prog 73 #[.pointer (some ⟨b, 0, none⟩), .pointer (some ⟨d, 0, none⟩), .agg #[.int .i64 kind, .int .i64 row, .int .i64 at_, .int .i64 n, .int .i64 v]] w (retP Q) := by
  refine pithlaw09_rows_got.calls ?_
  unfold pithlaw09_rows_got.F
  obtain ⟨z, rfl, rfl⟩ : ∃ z : D.A, z.1 = st ∧ z.2 = l := ⟨(st, l), rfl, rfl⟩
  have hzz : D.AOk z := hz
  obtain ⟨⟨s, t⟩, hS⟩ := Hdr.opn hS
  have hi := rowOf_lt row hp
  obtain ⟨⟨p, r⟩, hpr⟩ : ∃ y, ps[rowOf row ps.length]? = some y := ⟨ps[rowOf row ps.length]'hi, by simp⟩
  have hx1 : (ps.map ptrP)[rowOf row ps.length]? = some (some ⟨p, 0, none⟩) := by rw [List.getElem?_map, hpr]; rfl
  have hlen1 : (ps.map ptrP).length = ps.length := List.length_map _
  have hS := bagP.out (hS.fd (bagP ps)) hpr hl
  dsimp only at hS
  have hQ : ∀ w, Sat E w (cel b ⟨130, [.slice s.a ps.length s.c, .slice t.a ps.length t.c]⟩ :: rows cd_p_prob_Set s (ps.map ptrP) :: rows cd_p_pithref06_Set t (ps.map ptrR) ::
      PSet p l' :: bag (((ps.zip ls).map fun x => PSet x.1.1 x.2).eraseIdx (rowOf row ps.length)) :: Dec d st' :: M) → Q (.bool true) w := fun w hS => hQ w (got_end (s := s) (t := t) hS hpr hl)
  have hcv : ∀ w, Sem.run Try.prog (oConv 3 26 (.int .i64 v)) w = .ok (.value (.int .u32 (v % 4294967296))) w := fun w => by
    rw [← wrap_u32]; exact run_conv_int .i64 Try.underlying3 Try.underlying26 v
  obtain ⟨g0, g1, g3, g4, gd⟩ := hg
  dsimp only at g0 g1 g3 g4 gd
  rcases gd with rfl | rfl | rfl | rfl
  · have hd : D.gets z at_ n false = _ := g0 rfl
    repeat' (first | (refine pc_pithlaw09_rows_of (of_ok (hS.fd (cel b)) _ _ _ _ _ ?_); clear hS; intro w hS) | (refine pc_tree_Get (Get_ok (z := z) (hS.fd2 (Dec d) (PSet p)) hzz (by omega) (by omega) at_ n ?_); clear hS; intro w hS; rw [hd] at hS ⊢; dsimp only at hS ⊢) | (refine pN_eql_s ?_ ?_ <;> intro hc <;> try (exfalso; first | omega | exact hc rfl | exact hc (by assumption) | exact absurd hc (by assumption))) | refine pIf_t ?_ | refine pGd_go (by rfl) ?_ | refine pN_l hS (by first | rfl | assumption) ?_ | refine pL_l hS (by first | rfl | assumption) ?_ | refine pL_ld1 ha hS ?_ | refine pL_la hS (by rfl) ?_ | (refine pDr_go hS ?_; clear hS; intro w hS) | (refine pN_bx hS (by rfl) ?_; clear hS; intro a w hS) | refine ⟨⟨(by first | exact run_l hS (by first | rfl | assumption) | exact run_st hS (by first | rfl | omega) | exact run_ld1 ha hS | exact fun _ => run_l hS (by rfl) | exact fun _ => run_st hS (by first | rfl | omega) | exact fun _ => run_ld1 ha hS | exact fun h => Bool.noConfusion h), trivial⟩, ?_⟩ | refine pA_ixk hS _ (by first | rfl | (exact (Int.toNat_of_nonneg (by omega)).symm)) (by first | rfl | omega | simpa only [go_sem] using True.intro | (simp only [go_sem]; omega)) (by assumption) fun a ha hel => ?_ | refine pN_via (by (intro K; simp (disch := omega) only [go_sem, pN_min, pN_max, w_u32, w_u64, Option.isNone_some, Option.isNone_none]; (try simp only [wrap_u32, wrap_u64]); rfl)) ?_ | refine pA_via (by (intro K; simp (disch := omega) only [go_sem, pN_min, pN_max, w_u32, w_u64, Option.isNone_some, Option.isNone_none]; (try simp only [wrap_u32, wrap_u64]); rfl)) ?_ | fail)
    exact hQ _ hS.to
  · have hd : D.gets z at_ n true = _ := g1 rfl
    repeat' (first | (refine pc_pithlaw09_rows_of (of_ok (hS.fd (cel b)) _ _ _ _ _ ?_); clear hS; intro w hS) | (refine pc_tree_GetBack (GetBack_ok (z := z) (hS.fd2 (Dec d) (PSet p)) hzz (by omega) (by omega) at_ n ?_); clear hS; intro w hS; rw [hd] at hS ⊢; dsimp only at hS ⊢) | (refine pN_eql_s ?_ ?_ <;> intro hc <;> try (exfalso; first | omega | exact hc rfl | exact hc (by assumption) | exact absurd hc (by assumption))) | refine pIf_t ?_ | refine pIf_f ?_ | refine pGd_go (by rfl) ?_ | refine pN_l hS (by first | rfl | assumption) ?_ | refine pL_l hS (by first | rfl | assumption) ?_ | refine pL_ld1 ha hS ?_ | refine pL_la hS (by rfl) ?_ | (refine pDr_go hS ?_; clear hS; intro w hS) | (refine pN_bx hS (by rfl) ?_; clear hS; intro a w hS) | refine ⟨⟨(by first | exact run_l hS (by first | rfl | assumption) | exact run_st hS (by first | rfl | omega) | exact run_ld1 ha hS | exact fun _ => run_l hS (by rfl) | exact fun _ => run_st hS (by first | rfl | omega) | exact fun _ => run_ld1 ha hS | exact fun h => Bool.noConfusion h), trivial⟩, ?_⟩ | refine pA_ixk hS _ (by first | rfl | (exact (Int.toNat_of_nonneg (by omega)).symm)) (by first | rfl | omega | simpa only [go_sem] using True.intro | (simp only [go_sem]; omega)) (by assumption) fun a ha hel => ?_ | refine pN_via (by (intro K; simp (disch := omega) only [go_sem, pN_min, pN_max, w_u32, w_u64, Option.isNone_some, Option.isNone_none]; (try simp only [wrap_u32, wrap_u64]); rfl)) ?_ | refine pA_via (by (intro K; simp (disch := omega) only [go_sem, pN_min, pN_max, w_u32, w_u64, Option.isNone_some, Option.isNone_none]; (try simp only [wrap_u32, wrap_u64]); rfl)) ?_ | fail)
    exact hQ _ hS.to
  · have hd := g3 rfl
    repeat' (first | (refine pc_pithlaw09_rows_of (of_ok (hS.fd (cel b)) _ _ _ _ _ ?_); clear hS; intro w hS) | (refine pc_rcdec_Decoder_Bit (DBit_q (hS.fd2 (Dec d) (PSet p)) hzz.s hzz.f (by omega) at_ ?_); clear hS; intro w hS; rw [hd] at hS ⊢; dsimp only at hS ⊢) | refine pc_pithlaw09_bit (bit_is v ?_) | (refine pN_eql_s ?_ ?_ <;> intro hc <;> try (exfalso; first | omega | exact hc rfl | exact hc (by assumption) | exact absurd hc (by assumption))) | refine pIf_t ?_ | refine pIf_f ?_ | refine pGd_go (by rfl) ?_ | refine pN_l hS (by first | rfl | assumption) ?_ | refine pL_l hS (by first | rfl | assumption) ?_ | refine pL_ld1 ha hS ?_ | refine pL_la hS (by rfl) ?_ | (refine pDr_go hS ?_; clear hS; intro w hS) | (refine pN_bx hS (by rfl) ?_; clear hS; intro a w hS) | refine ⟨⟨(by first | exact run_l hS (by first | rfl | assumption) | exact run_st hS (by first | rfl | omega) | exact run_ld1 ha hS | exact fun _ => run_l hS (by rfl) | exact fun _ => run_st hS (by first | rfl | omega) | exact fun _ => run_ld1 ha hS | exact fun h => Bool.noConfusion h), trivial⟩, ?_⟩ | refine pA_ixk hS _ (by first | rfl | (exact (Int.toNat_of_nonneg (by omega)).symm)) (by first | rfl | omega | simpa only [go_sem] using True.intro | (simp only [go_sem]; omega)) (by assumption) fun a ha hel => ?_ | refine pN_via (by (intro K; simp (disch := omega) only [go_sem, pN_min, pN_max, w_u32, w_u64, Option.isNone_some, Option.isNone_none]; (try simp only [wrap_u32, wrap_u64]); rfl)) ?_ | refine pA_via (by (intro K; simp (disch := omega) only [go_sem, pN_min, pN_max, w_u32, w_u64, Option.isNone_some, Option.isNone_none]; (try simp only [wrap_u32, wrap_u64]); rfl)) ?_ | fail)
    exact hQ _ hS.to
  · obtain ⟨hd, rfl, h0, h32⟩ := g4 rfl
    obtain ⟨n, rfl⟩ : ∃ m : Nat, n = m := ⟨n.toNat, by omega⟩
    rw [Int.toNat_natCast] at hd
    have hlow := low_shift (v % 4294967296) n (by omega) (by omega)
    repeat' (first | (refine pc_pithlaw09_rows_of (of_ok (hS.fd (cel b)) _ _ _ _ _ ?_); clear hS; intro w hS) | (refine pc_rcdec_Decoder_Direct (DDirect_q (hS.fd (Dec d)) hzz.s (by omega) n ?_); clear hS; intro w hS; rw [hd] at hS ⊢; dsimp only at hS ⊢) | ((first | refine pN_eql_s ?_ ?_ | refine pA_eql_s ?_ ?_) <;> intro hc <;> try (exfalso; first | omega | exact hc rfl | exact hc (by assumption) | exact absurd hc (by assumption))) | refine pIf_f ?_ | refine gA_go (by rfl) ?_ | refine pN_l hS (by first | rfl | assumption) ?_ | refine pL_l hS (by first | rfl | assumption) ?_ | refine pL_ld1 ha hS ?_ | refine pL_la hS (by rfl) ?_ | (refine pDr_go hS ?_; clear hS; intro w hS) | (refine pN_bx hS (by rfl) ?_; clear hS; intro a w hS) | refine ⟨⟨(by first | exact run_l hS (by first | rfl | assumption) | exact run_st hS (by first | rfl | omega) | exact run_ld1 ha hS | exact fun _ => run_l hS (by rfl) | exact fun _ => run_st hS (by first | rfl | omega) | exact fun _ => run_ld1 ha hS | exact fun h => Bool.noConfusion h), trivial⟩, ?_⟩ | refine pA_ixk hS _ (by first | rfl | (exact (Int.toNat_of_nonneg (by omega)).symm)) (by first | rfl | omega | simpa only [go_sem] using True.intro | (simp only [go_sem]; omega)) (by assumption) fun a ha hel => ?_ | refine pN_via (by (intro K; simp (disch := omega) only [go_sem, pN_min, pN_max, w_u32, w_u64, Option.isNone_some, Option.isNone_none]; (try simp only [wrap_u32, wrap_u64]); rfl)) ?_ | refine pA_via (by (intro K; simp (disch := omega) only [go_sem, pN_min, pN_max, w_u32, w_u64, Option.isNone_some, Option.isNone_none]; (try simp only [wrap_u32, wrap_u64]); rfl)) ?_ | refine pL_via (by (intro K; simp (disch := omega) only [go_sem, pN_min, pN_max, w_u32, w_u64, Option.isNone_some, Option.isNone_none]; (try simp only [wrap_u32, wrap_u64]); rfl)) ?_ | fail)
    refine pA_shl_k (32 - n) (by omega) (by show _ ≤ 32; omega) ?_
    rw [wrap_u32]
    repeat' (first | refine gA_go (by rfl) ?_ | refine pL_l hS (by first | rfl | assumption) ?_ | refine pA_via (by (intro K; simp (disch := omega) only [go_sem, pN_min, pN_max, w_u32, w_u64, Option.isNone_some, Option.isNone_none]; (try simp only [wrap_u32, wrap_u64]); rfl)) ?_ | fail)
    refine pA_shr_k (32 - n) (by omega) (by show _ ≤ 32; omega) ?_
    rw [hlow]
    repeat' (first | (refine pA_eql_s ?_ ?_ <;> intro hc <;> try (exfalso; first | omega | exact hc rfl | exact hc (by assumption) | exact absurd hc (by assumption))) | refine gA_go (by rfl) ?_ | refine pA_via (by (intro K; simp (disch := omega) only [go_sem, pN_min, pN_max, w_u32, w_u64, Option.isNone_some, Option.isNone_none]; (try simp only [wrap_u32, wrap_u64]); rfl)) ?_ | fail)
    exact hQ _ hS.to

theorem alike_ok {p q : Nat} {l : List Int} (hS : Sat E w (PSet p l :: PSet q l :: M)) (hn : l.length ≤ 1048576) (hQ : ∀ w, Sat E w (PSet p l :: PSet q l :: M) → Q (.bool true) w) :
    Calls Try.prog 65 #[.pointer (some ⟨p, 0, none⟩), .pointer (some ⟨q, 0, none⟩)] w (retP Q) := by
  refine pithlaw09_alike.calls ?_
  unfold pithlaw09_alike.F
  repeat' (first | (refine pc_prob_Set_Len (Len_ok (hS.fd (PSet p)) ?_); clear hS; intro w hS) | (refine pc_prob_Set_Len (Len_ok (hS.fd (PSet q)) ?_); clear hS; intro w hS) | (refine pN_neq_s ?_ ?_ <;> intro hc <;> try (exfalso; first | omega | exact hc rfl | exact hc (by assumption) | exact absurd hc (by assumption))) | refine pIf_f ?_ | fail)
  refine ⟨fun v w => ∃ i : Nat, v = .int .i64 i ∧ i ≤ l.length ∧ Sat E w (PSet p l :: PSet q l :: M), fun v _ => l.length - (RowKit.intOf v).toNat, ⟨0, rfl, Nat.zero_le _, hS.to⟩, ?_⟩
  clear hS
  rintro _ _ w ⟨i, rfl, hi, hS⟩
  by_cases hlt : i < l.length
  · obtain ⟨y, hy⟩ : ∃ y, l[i]? = some y := ⟨l[i]'hlt, by simp⟩
    repeat' (first | (refine pc_prob_Set_Len (Len_ok (hS.fd (PSet p)) ?_); clear hS; intro w hS) | (refine pc_prob_Set_At (At_in (hS.fd (PSet p)) (i : Int) (by omega) (by rw [Int.toNat_natCast]; exact hy) ?_); clear hS; intro w hS) | (refine pc_prob_Set_At (At_in (hS.fd (PSet q)) (i : Int) (by omega) (by rw [Int.toNat_natCast]; exact hy) ?_); clear hS; intro w hS) | (refine pN_lss_s ?_ ?_ <;> intro hc <;> try (exfalso; omega)) | (refine pN_neq_s ?_ ?_ <;> intro hc <;> try (exfalso; first | omega | exact hc rfl | exact hc (by assumption) | exact absurd hc (by assumption))) | refine pIf_t ?_ | refine pIf_f ?_ | refine pGd_go (by rfl) ?_ | refine pN_via (by (intro K; simp (disch := omega) only [go_sem, pN_min, pN_max, w_u32, w_u64, Option.isNone_some, Option.isNone_none]; (try simp only [wrap_u32, wrap_u64]); rfl)) ?_ | fail)
    exact ⟨⟨i + 1, rfl, by omega, hS.to⟩, by simp [RowKit.intOf] <;> omega⟩
  · repeat' (first | (refine pc_prob_Set_Len (Len_ok (hS.fd (PSet p)) ?_); clear hS; intro w hS) | (refine pN_lss_s ?_ ?_ <;> intro hc <;> try (exfalso; omega)) | refine pIf_f ?_ | fail)
    exact hQ _ hS.to
end

end Go.Proofs.Ytoejaggkedlfmaa

namespace Go.Proofs.Ytoejaggkedlfmaa
open Go
set_option linter.unusedSimpArgs false
set_option linter.unnecessarySimpa false
set_option linter.unusedSectionVars false
set_option linter.unusedVariables false
attribute [local irreducible] oMv oV oU oCall oCallV oBi oBin oUn oLoad oStore oNil oFld oField oIdx oIndex oPick oAlloc oBox oBuild oBs oConv oMk oSl oExt oFn oIface oMap oLook oMapUp oRange oNext oAssert oPanic oRes pN pA pL pDr pIf gA pGd Calls

theorem MOk.rows {st : R.S} {ps : List (Nat × Nat)} {ls : List (List Int)} (ho : R.Ok st) (h : RowsOk ps ls) (hp : 0 < ps.length) : MOk (st, ls) := ⟨ho, h.fine, by rw [h.len]; exact hp⟩
theorem took_small {m m' : MS} {o : T_pithlaw09_Op} (h : MOk m) (e : took m o = some m') (hs : ∀ l ∈ m.2, l.length ≤ 4096) : ∀ l ∈ m'.2, l.length ≤ 4096 := by
  obtain ⟨l, h1, h2, h3⟩ := h.get o.Row
  unfold took at e
  rw [h2] at e
  obtain ⟨t, e1, e2⟩ := Option.map_eq_some_iff.1 e
  subst e2
  have oa : R.TS.Ok ⟨m.1, l⟩ := ⟨h.s, h3⟩
  obtain ⟨_, _, g3⟩ := oa.step e1
  intro x hx
  rcases List.mem_or_eq_of_mem_set hx with hx | rfl
  · exact hs x hx
  · rw [g3]; exact hs l (List.mem_of_getElem? h1)
theorem Chain.end_ok {m m' : MS} {os : List T_pithlaw09_Op} (h : Chain m os m') (ho : MOk m) : MOk m' := by
  induction h with
  | nil m => exact ho
  | cons e _ ih => exact ih (ho.took e).1
/-- The next step of a decoder. -/
theorem Chain.got {b : List UInt8} {f : R.S} (hb : D.Begins b f) {m m1 m' : MS} {os : List T_pithlaw09_Op} {o : T_pithlaw09_Op} {d : D.S} (e : took m o = some m1) (h : Chain m1 os m') (ho : MOk m) (hf : D.Fol b f m.1 d) (hi : D.In m'.1 f) :
    ∃ (l l' : List Int) (t : D.S), m.2[rowOf o.Row m.2.length]? = some l ∧ m1.2 = m.2.set (rowOf o.Row m.2.length) l' ∧ D.Gives d l o t l' ∧ D.Fol b f m1.1 t := by
  have h1 := h.back hb (ho.took e).1 hi
  obtain ⟨l, h3, h2, h4⟩ := ho.get o.Row
  unfold took at e
  rw [h2] at e
  obtain ⟨t, e1, e2⟩ := Option.map_eq_some_iff.1 e
  subst e2
  obtain ⟨_, u, g1, g2⟩ := D.Fol.step hb (a := ⟨m.1, l⟩) hf ⟨ho.s, h4⟩ e1 h1
  exact ⟨l, t.l, u, h3, rfl, g1, g2⟩
theorem D.Gives.keep {d t : D.S} {l l' : List Int} {o : T_pithlaw09_Op} (h : D.Gives d l o t l') (hz : D.AOk (d, l)) : D.AOk (t, l') ∧ t.b = d.b := by
  rcases h.kd with k | k | k | k
  · have h1 := D.gets_ok hz o.At o.N false
    rw [h.k0 k] at h1
    exact ⟨h1.1, h1.2.b⟩
  · have h1 := D.gets_ok hz o.At o.N true
    rw [h.k1 k] at h1
    exact ⟨h1.1, h1.2.b⟩
  · have h1 := D.bitQ_ok hz.s hz.f o.At
    rw [h.k3 k] at h1
    exact ⟨⟨h1.1, h1.2.2.1⟩, h1.2.1⟩
  · have h1 := D.dirQ_ok hz.s o.N
    rw [(h.k4 k).1] at h1
    exact ⟨⟨h1.1, by rw [(h.k4 k).2.1]; exact hz.f⟩, h1.2⟩

set_option maxHeartbeats 4000000 in
theorem walk_TreeBack (W : World) (x0 : Sl × List Int) (x1 : Sl × List T_pithlaw09_Op) (k0 k1 : Nat)
    (h0 : RdP cd_int (old W) x0.1 x0.2 ∧ x0.2.length * 8 ≤ reachBytes ∧ x0.2.length + 1 ≤ k0 ∧ ∀ c ∈ x0.2, ∃ k, k ≤ k0 ∧ (-9223372036854775808 ≤ c ∧ c < 9223372036854775808))
    (h1 : RdP cd_pithlaw09_Op (old W) x1.1 x1.2 ∧ x1.2.length * 40 ≤ reachBytes ∧ x1.2.length + 1 ≤ k1 ∧ ∀ c ∈ x1.2, ∃ k, k ≤ k1 ∧ c.ok W k) :
    Calls Try.prog 17 #[.slice x0.1.a x0.2.length x0.1.c, .slice x1.1.a x1.2.length x1.1.c] W fun e W' => e = .returned (.bool true) ∧ RowKit.Below W.heap.size W W' := by
  refine walk_end (pithlaw09_TreeBack.calls ?_)
  unfold pithlaw09_TreeBack.F
  obtain ⟨r0, s0, _, _⟩ := h0
  obtain ⟨r1, s1, _, o1⟩ := h1
  have hrb : reachBytes = 140737488351232 := rfl
  have hS := Sat.start W
  refine pc_pithlaw09_made (made_ok (M := []) r0 (by omega) hS fun b ps ls0 w hr0 hp hpl0 hS => ?_)
  have hS := (bagL.one _ _ _ (hS.fd (bagL ps)))
  have hS : Sat W w (old W :: [Hdr b ps, bagP ps ls0]) := hS.to
  repeat' (first | refine pN_via (by (intro K; simp (disch := omega) only [go_sem, pN_min, pN_max, w_u32, w_u64, Option.isNone_some, Option.isNone_none]; (try simp only [wrap_u32, wrap_u64]); rfl)) ?_ | fail)
  refine pc_pithlaw09_made (made_ok (M := [Hdr b ps, bagP ps ls0]) r0 (by omega) hS fun c qs ls1 w hq0 hq hql0 hS => ?_)
  obtain ⟨hr, he0⟩ := hr0
  obtain ⟨hr1, he1⟩ := hq0
  obtain rfl : ls1 = ls0 := by rw [he0, he1]
  clear he0 he1
  have hS := (bagL.one _ _ _ (hS.fd (bagL qs)))
  have hS : Sat W w [Hdr b ps, bagP ps ls1, Hdr c qs, bagP qs ls1, old W] := hS.to
  have hpq : qs.length = ps.length := by rw [← hr.len, hr1.len]
  repeat' (first | (refine pc_rcenc_New (NewE_ok hS ?_); clear hS; intro e w hS) | (refine pc_pithlaw09_fixed (fixed_ok hS ?_); clear hS; intro w hS) | refine pIf_f ?_ | refine pGd_go (by rfl) ?_ | refine pN_via (by (intro K; simp (disch := omega) only [go_sem, pN_min, pN_max, w_u32, w_u64, Option.isNone_some, Option.isNone_none]; (try simp only [wrap_u32, wrap_u64]); rfl)) ?_ | fail)
  have hm0 : MOk (R.S.new, ls1) := MOk.rows R.Ok.new hr hp
  have hS : Sat W w (rows cd_pithlaw09_Op ⟨none, 0⟩ [] :: [Enc e R.S.new, Hdr b ps, bagP ps ls1, Hdr c qs, bagP qs ls1, old W]) := hS.to (N := [Enc e R.S.new, Hdr b ps, bagP ps ls1, Hdr c qs, bagP qs ls1, old W]) |>.nil 116 5
  refine ⟨fun v x w => ∃ (i : Nat) (s : Sl) (os : List T_pithlaw09_Op) (m : MS), v = .slice s.a os.length s.c ∧ x = .int .i64 i ∧ i ≤ x1.2.length ∧ os.length ≤ i ∧ Chain (R.S.new, ls1) os m ∧ m.2.length = ps.length ∧ (∀ l ∈ m.2, l.length ≤ 4096) ∧ m.1.k ≤ 32 * i ∧ Sat W w [rows cd_pithlaw09_Op s os, Enc e m.1, Hdr b ps, bagP ps m.2, Hdr c qs, bagP qs ls1, old W], fun _ x _ => x1.2.length - (RowKit.intOf x).toNat,
    ⟨0, ⟨none, 0⟩, [], (R.S.new, ls1), rfl, rfl, Nat.zero_le _, Nat.zero_le _, .nil _, hr.len, hr.small, Nat.zero_le _, hS⟩, ?_⟩
  clear hS
  rintro _ _ _ w ⟨i, so, os, m, rfl, rfl, hi, hos, hch, hml, hsm, hk, hS⟩
  have hmo := hch.end_ok hm0
  by_cases hlt : i < x1.2.length
  · obtain ⟨y, hy⟩ : ∃ y, x1.2[i]? = some y := ⟨x1.2[i]'hlt, by simp⟩
    obtain ⟨kind, row, at_, n, v⟩ := y
    repeat' (first | (refine pN_lss_s ?_ ?_ <;> intro hc <;> try (exfalso; omega)) | refine pIf_t ?_ | refine pN_via (by (intro K; simp (disch := omega) only [go_sem, pN_min, pN_max, w_u32, w_u64, Option.isNone_some, Option.isNone_none]; (try simp only [wrap_u32, wrap_u64]); rfl)) ?_ | fail)
    refine ⟨fun v w => ∃ (s' : Sl) (os' : List T_pithlaw09_Op) (m' : MS), v = .slice s'.a os'.length s'.c ∧ os'.length ≤ i + 1 ∧ Chain (R.S.new, ls1) os' m' ∧ m'.2.length = ps.length ∧ (∀ l ∈ m'.2, l.length ≤ 4096) ∧ m'.1.k ≤ 32 * (i + 1) ∧ Sat W w [rows cd_pithlaw09_Op s' os', Enc e m'.1, Hdr b ps, bagP ps m'.2, Hdr c qs, bagP qs ls1, old W], ?_, ?_⟩
    rotate_left 1
    · clear hS
      rintro _ _ w ⟨s', os', m', rfl, h1, h2, h3, h4, h5, hS⟩
      repeat' (first | refine pN_via (by (intro K; simp (disch := omega) only [go_sem, pN_min, pN_max, w_u32, w_u64, Option.isNone_some, Option.isNone_none]; (try simp only [wrap_u32, wrap_u64]); rfl)) ?_ | fail)
      exact ⟨⟨i + 1, s', os', m', rfl, rfl, by omega, h1, h2, h3, h4, h5, hS⟩, by simp [RowKit.intOf] <;> omega⟩
    repeat' (first | refine pN_ld_at ha hS (by rfl) ?_ | refine pN_ixk hS _ (by first | rfl | (exact (Int.toNat_of_nonneg (by omega)).symm)) (by first | rfl | omega | simpa only [go_sem] using True.intro | (simp only [go_sem]; omega)) (by assumption) fun a ha hel => ?_ | fail)
    refine pc_pithlaw09_rows_given (given_ok (e := e) (b := b) (ps := ps) (st := m.1) (ls := m.2) (M := [Hdr c qs, bagP qs ls1, rows cd_pithlaw09_Op so os, old W]) hS.to hp hml hmo hsm (by omega) _ _ _ _ _ (fun hn w hS => ?_) fun m' w hn hS => ?_)
    · repeat' (first | refine pIf_f ?_ | fail)
      exact ⟨so, os, m, rfl, by omega, hch, hml, hsm, by omega, hS.to⟩
    · have hmt := hmo.took hn
      repeat' (first | refine pIf_t ?_ | refine pN_ld_at ha hS (by rfl) ?_ | refine pN_ixk hS _ (by first | rfl | (exact (Int.toNat_of_nonneg (by omega)).symm)) (by first | rfl | omega | simpa only [go_sem] using True.intro | (simp only [go_sem]; omega)) (by assumption) fun a ha hel => ?_ | (refine pN_b1 hS (by rfl) (by decide) ?_; clear hS; intro s w hS) | (refine pN_app hS (by first | rfl | omega | simpa only [go_sem] using True.intro | (simp only [go_sem]; omega)) (by first | rfl | omega | simpa only [go_sem] using True.intro | (simp only [go_sem]; omega)) (by first | omega | (simp only [go_sem]; omega)) ?_; clear hS; intro s w hS) | fail)
      exact ⟨_, _, m', rfl, by rw [List.length_append, List.length_cons, List.length_nil]; omega, hch.snoc hn, by omega, took_small hmo hn hsm, by omega, hS.to⟩
  obtain rfl : i = x1.2.length := by omega
  have hbl : m.1.bytes.length = m.1.k + 5 := R.digits_length _ _
  have hself := D.In.self (f := m.1) (by have := hmo.s.r0; omega)
  have hbg := D.Begins.of hmo.s []
  rw [List.append_nil] at hbg
  obtain ⟨t0, b1, b2⟩ := D.Fol.start hbg (hch.back hbg hm0 hself)
  obtain ⟨ho1, htb1, _⟩ := D.start_ok b1
  repeat' (first | (refine pc_rcenc_Encoder_Bytes (Bytes_ok (hS.fd (Enc _)) (by first | omega | decide) ?_); clear hS; intro s w hS) | (refine pc_rcdec_New (DNew_in hS (by omega) b1 ?_); clear hS; intro d w hS) | (refine pN_lss_s ?_ ?_ <;> intro hc <;> try (exfalso; omega)) | (refine pN_neq_s ?_ ?_ <;> intro hc <;> try (exfalso; first | omega | exact hc rfl | exact hc (by assumption) | exact absurd hc (by assumption))) | refine pIf_f ?_ | refine pGd_go (by rfl) ?_ | refine pN_via (by (intro K; simp (disch := omega) only [go_sem, pN_min, pN_max, w_u32, w_u64, Option.isNone_some, Option.isNone_none]; (try simp only [wrap_u32, wrap_u64]); rfl)) ?_ | fail)
  have hS : Sat W w [rows cd_pithlaw09_Op so os, Dec d t0, Hdr c qs, bagP qs ls1, Hdr b ps, bagP ps m.2, old W] := hS.to
  have hz0 : MOk (R.S.new, ls1) := hm0
  refine ⟨fun v w => ∃ (k : Nat) (z : MS) (t : D.S), v = .int .i64 k ∧ k ≤ os.length ∧ MOk z ∧ z.2.length = ps.length ∧ (∀ l ∈ z.2, l.length ≤ 4096) ∧ Chain z (os.drop k) m ∧ D.Ok t ∧ t.b = m.1.bytes ∧ D.Fol m.1.bytes m.1 z.1 t ∧ Sat W w [rows cd_pithlaw09_Op so os, Dec d t, Hdr c qs, bagP qs z.2, Hdr b ps, bagP ps m.2, old W], fun v _ => os.length - (RowKit.intOf v).toNat,
    ⟨0, (R.S.new, ls1), t0, rfl, Nat.zero_le _, hm0, hr.len, hr.small, hch, ho1, htb1, b2, hS⟩, ?_⟩
  clear hS
  rintro _ _ w ⟨k, z, t, rfl, hkl, hzo, hzl, hzs, hzc, hto, htb, hfo, hS⟩
  have htl : t.b.length ≤ 225000000000000 := by rw [htb]; omega
  by_cases hkk : k < os.length
  · obtain ⟨o, ho⟩ : ∃ o, os[k]? = some o := ⟨os[k]'hkk, by simp⟩
    obtain ⟨m1, g1, g2⟩ := Chain.next ho hzc
    obtain ⟨l, l', t', g3, g4, g5, g6⟩ := Chain.got hbg g1 g2 hzo hfo hself
    have hza : D.AOk (t, l) := ⟨hto, hzo.f l (List.mem_of_getElem? g3)⟩
    have hl4 := hzs l (List.mem_of_getElem? g3)
    have hgk := g5.keep hza
    have hmt := hzo.took g1
    have hts := took_small hzo g1 hzs
    rw [hzl, ← hpq] at g3 g4
    obtain ⟨kind, row, at_, n, v⟩ := o
    repeat' (first | (refine pN_lss_s ?_ ?_ <;> intro hc <;> try (exfalso; omega)) | refine pIf_t ?_ | refine pN_ld_at ha hS (by rfl) ?_ | refine pN_ixk hS _ (by first | rfl | (exact (Int.toNat_of_nonneg (by omega)).symm)) (by first | rfl | omega | simpa only [go_sem] using True.intro | (simp only [go_sem]; omega)) (by assumption) fun a ha hel => ?_ | refine pN_via (by (intro K; simp (disch := omega) only [go_sem, pN_min, pN_max, w_u32, w_u64, Option.isNone_some, Option.isNone_none]; (try simp only [wrap_u32, wrap_u64]); rfl)) ?_ | fail)
    refine pc_pithlaw09_rows_got (got_ok (d := d) (b := c) (ps := qs) (ls := z.2) (st := t) (M := [Hdr b ps, bagP ps m.2, rows cd_pithlaw09_Op so os, old W]) hS.to hq (by omega) kind row at_ n v g3 hza htl hl4 g5 ?_)
    clear hS
    intro w hS
    repeat' (first | refine pIf_f ?_ | refine pN_via (by (intro K; simp (disch := omega) only [go_sem, pN_min, pN_max, w_u32, w_u64, Option.isNone_some, Option.isNone_none]; (try simp only [wrap_u32, wrap_u64]); rfl)) ?_ | fail)
    exact ⟨⟨k + 1, m1, t', rfl, by omega, hmt.1, by omega, hts, g2, hgk.1.s, hgk.2.trans htb, g6, by rw [g4]; exact hS.to⟩, by simp [RowKit.intOf] <;> omega⟩
  obtain rfl : k = os.length := by omega
  rw [List.drop_length] at hzc
  cases hzc
  have hS : Sat W w [Dec d t, Hdr b ps, bagP ps m.2, Hdr c qs, bagP qs m.2, old W] := hS.to
  repeat' (first | (refine pN_lss_s ?_ ?_ <;> intro hc <;> try (exfalso; omega)) | refine pIf_f ?_ | refine pN_via (by (intro K; simp (disch := omega) only [go_sem, pN_min, pN_max, w_u32, w_u64, Option.isNone_some, Option.isNone_none]; (try simp only [wrap_u32, wrap_u64]); rfl)) ?_ | fail)
  refine ⟨fun v w => ∃ k : Nat, v = .int .i64 k ∧ k ≤ ps.length ∧ Sat W w [Dec d t, Hdr b ps, bagP ps m.2, Hdr c qs, bagP qs m.2, old W], fun v _ => ps.length - (RowKit.intOf v).toNat, ⟨0, rfl, Nat.zero_le _, hS⟩, ?_⟩
  clear hS
  rintro _ _ w ⟨k, rfl, hk, hS⟩
  obtain ⟨⟨s1, t1⟩, hS⟩ := Hdr.opn (hS.fd (Hdr b))
  obtain ⟨⟨s2, t2⟩, hS⟩ := Hdr.opn (hS.fd (Hdr c))
  dsimp only at hS
  have hlen1 : (ps.map ptrP).length = ps.length := List.length_map _
  have hlen2 : (qs.map ptrP).length = qs.length := List.length_map _
  by_cases hkk : k < ps.length
  · obtain ⟨⟨p, r⟩, hpr⟩ : ∃ y, ps[k]? = some y := ⟨ps[k]'hkk, by simp⟩
    obtain ⟨⟨q, r2⟩, hqr⟩ : ∃ y, qs[k]? = some y := ⟨qs[k]'(by omega), by simp⟩
    obtain ⟨l, hl⟩ : ∃ y, m.2[k]? = some y := ⟨m.2[k]'(by omega), by simp⟩
    have hx1 : (ps.map ptrP)[k]? = some (some ⟨p, 0, none⟩) := by rw [List.getElem?_map, hpr]; rfl
    have hx2 : (qs.map ptrP)[k]? = some (some ⟨q, 0, none⟩) := by rw [List.getElem?_map, hqr]; rfl
    have hl4 := hzs l (List.mem_of_getElem? hl)
    have hS := bagP.out (hS.fd (bagP ps)) hpr hl
    have hS := bagP.out (hS.fd (bagP qs)) hqr hl
    dsimp only at hS
    repeat' (first | (refine pc_pithlaw09_alike (alike_ok (hS.fd2 (PSet p) (PSet q)) (by omega) ?_); clear hS; intro w hS) | (refine pN_lss_s ?_ ?_ <;> intro hc <;> try (exfalso; omega)) | refine pIf_t ?_ | refine pIf_f ?_ | refine pN_l hS (by first | rfl | assumption) ?_ | refine pL_l hS (by first | rfl | assumption) ?_ | refine pL_ld1 ha hS ?_ | (refine pDr_go hS ?_; clear hS; intro w hS) | refine ⟨trivial, ?_⟩ | refine pA_ixk hS _ (by first | rfl | (exact (Int.toNat_of_nonneg (by omega)).symm)) (by first | rfl | omega | simpa only [go_sem] using True.intro | (simp only [go_sem]; omega)) (by assumption) fun a ha hel => ?_ | refine pN_via (by (intro K; simp (disch := omega) only [go_sem, pN_min, pN_max, w_u32, w_u64, Option.isNone_some, Option.isNone_none]; (try simp only [wrap_u32, wrap_u64]); rfl)) ?_ | refine pA_via (by (intro K; simp (disch := omega) only [go_sem, pN_min, pN_max, w_u32, w_u64, Option.isNone_some, Option.isNone_none]; (try simp only [wrap_u32, wrap_u64]); rfl)) ?_ | fail)
    have hS : Sat W w (cel b ⟨130, [.slice s1.a ps.length s1.c, .slice t1.a ps.length t1.c]⟩ :: rows cd_p_prob_Set s1 (ps.map ptrP) :: rows cd_p_pithref06_Set t1 (ps.map ptrR) :: cel c ⟨130, [.slice s2.a qs.length s2.c, .slice t2.a qs.length t2.c]⟩ :: rows cd_p_prob_Set s2 (qs.map ptrP) :: rows cd_p_pithref06_Set t2 (qs.map ptrR) ::
      PSet (q, r2).1 l :: bag (((qs.zip m.2).map fun x => PSet x.1.1 x.2).eraseIdx k) :: PSet (p, r).1 l :: bag (((ps.zip m.2).map fun x => PSet x.1.1 x.2).eraseIdx k) :: [Dec d t, old W]) := hS.to
    have hS := Hdr.shut hS
    have hS : Sat W w (cel c ⟨130, [.slice s2.a qs.length s2.c, .slice t2.a qs.length t2.c]⟩ :: rows cd_p_prob_Set s2 (qs.map ptrP) :: rows cd_p_pithref06_Set t2 (qs.map ptrR) :: Hdr b ps ::
      PSet (q, r2).1 l :: bag (((qs.zip m.2).map fun x => PSet x.1.1 x.2).eraseIdx k) :: PSet (p, r).1 l :: bag (((ps.zip m.2).map fun x => PSet x.1.1 x.2).eraseIdx k) :: [Dec d t, old W]) := hS.to
    have hS := Hdr.shut hS
    have hS : Sat W w (PSet (q, r2).1 l :: bag (((qs.zip m.2).map fun x => PSet x.1.1 x.2).eraseIdx k) :: PSet (p, r).1 l :: bag (((ps.zip m.2).map fun x => PSet x.1.1 x.2).eraseIdx k) :: Hdr b ps :: Hdr c qs :: [Dec d t, old W]) := hS.to
    have hS := bagP.into hS hqr hl
    rw [set_self hl] at hS
    have hS : Sat W w (PSet (p, r).1 l :: bag (((ps.zip m.2).map fun x => PSet x.1.1 x.2).eraseIdx k) :: bagP qs m.2 :: Hdr b ps :: Hdr c qs :: [Dec d t, old W]) := hS.to
    have hS := bagP.into hS hpr hl
    rw [set_self hl] at hS
    exact ⟨⟨k + 1, rfl, by omega, hS.to⟩, by simp [RowKit.intOf] <;> omega⟩
  · have hdone : decide (t.k = t.b.length ∧ t.C = 0) = true := decide_eq_true ⟨by rw [hfo.k, htb, hbl], by rw [hfo.C, D.seen_self, Int.sub_self]⟩
    repeat' (first | (refine pc_rcdec_Decoder_Done (Done_ok (hS.fd (Dec d)) ?_); clear hS; intro w hS; rw [hdone]) | (refine pN_lss_s ?_ ?_ <;> intro hc <;> try (exfalso; omega)) | refine pIf_f ?_ | refine pN_l hS (by first | rfl | assumption) ?_ | refine pN_via (by (intro K; simp (disch := omega) only [go_sem, pN_min, pN_max, w_u32, w_u64, Option.isNone_some, Option.isNone_none]; (try simp only [wrap_u32, wrap_u64]); rfl)) ?_ | fail)
    exact ⟨rfl, hS.to⟩

end Go.Proofs.Ytoejaggkedlfmaa
