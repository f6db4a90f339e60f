/-
  Package pithref08: the document's decoder.
-/
import Derived.Test.YtoejaggkedlfmaaLfPithref08
import Derived.Test.YtoejaggkedlfmaaRef6
import Derived.Test.YtoejaggkedlfmaaDecP
import Derived.Test.YtoejaggkedlfmaaTPure
import Derived.Test.YtoejaggkedlfmaaPart
namespace Go.Proofs.Ytoejaggkedlfmaa
open Go
set_option linter.unusedSimpArgs false
set_option linter.unnecessarySimpa false
set_option linter.unusedSectionVars false
set_option linter.unusedVariables false
attribute [local irreducible] oMv oV oU oCall oCallV oBi oBin oUn oLoad oStore oNil oFld oField oIdx oIndex oPick oAlloc oBox oBuild oBs oConv oMk oSl oExt oFn oIface oMap oLook oMapUp oRange oNext oAssert oPanic oRes pN pA pL pDr pIf gA pGd

/-- The document's decoder in block d. -/
def RDec (d : Nat) (st : D.S) : HA := fun h => ∃ s : Sl, Sats [cel d ⟨151, [.slice s.a st.b.length s.c, .int .i64 st.k, .int .i64 st.R, .int .i64 st.C]⟩, rows cd_uint8 s st.b] h

section
variable {E w : World} {M : List HA} {Q : Value → World → Prop} {d : Nat} {st : D.S}

theorem RDec.opn (hS : Sat E w (RDec d st :: M)) : ∃ s : Sl, Sat E w (cel d ⟨151, [.slice s.a st.b.length s.c, .int .i64 st.k, .int .i64 st.R, .int .i64 st.C]⟩ :: rows cd_uint8 s st.b :: M) := by
  obtain ⟨s, hS⟩ := hS.ex
  exact ⟨s, hS.open_ (M := [_, _]) fun _ h => h⟩
theorem RDec.shut {s : Sl} {L N : List HA} {o : Ob} {l : List UInt8} (hS : Sat E w L) (st : D.S) [h1 : Fnd (cel d) L o N] [h2 : Fnd (rows cd_uint8 s) N l M] (ho : o = ⟨151, [.slice s.a l.length s.c, .int .i64 st.k, .int .i64 st.R, .int .i64 st.C]⟩) (hl : l = st.b) : Sat E w (RDec d st :: M) := by
  subst hl
  subst ho
  exact Sat.shut (M := [_, _]) (hS.fd2 (cel d) (rows cd_uint8 s)) fun _ h => ⟨s, h⟩

/-- Its cells. -/
abbrev rdC (s : Sl) (st : D.S) : Ob := ⟨151, [.slice s.a st.b.length s.c, .int .i64 st.k, .int .i64 st.R, .int .i64 st.C]⟩

theorem R8Fork_ok {s : Sl} (hS : Sat E w (cel d (rdC s st) :: M)) (hQ : ∀ f w, Sat E w (cel f (rdC s st) :: cel d (rdC s st) :: M) → Q (.pointer (some ⟨f, 0, none⟩)) w) :
    Calls Try.prog 92 #[.pointer (some ⟨d, 0, none⟩)] w (retP Q) := by
  refine pithref08_Decoder_Fork.calls ?_
  unfold pithref08_Decoder_Fork.F
  repeat' (first | refine pN_la hS (by rfl) ?_ | (refine pN_sa hS (by rfl) (by rfl) (by rfl) ?_; clear hS; intro w hS; try dsimp only at hS) | (refine pN_nz hS ?_; clear hS; intro a w hS) | refine pN_via (by (intro K; simp (disch := omega) only [go_sem, pN_min, pN_max, w_u32, w_u64, Option.isNone_some, Option.isNone_none]; (try simp only [wrap_u32, wrap_u64]); rfl)) ?_ | fail)
  exact hQ _ _ hS.to

theorem R8widen_ok {s : Sl} (hS : Sat E w (cel d (rdC s st) :: rows cd_uint8 s st.b :: M)) (hk : st.k ≤ st.b.length) (hb : st.b.length ≤ 140737488355328) (r0 : 0 < st.R) (c0 : 0 ≤ st.C) (c1 : st.C < st.R)
    (hQ : ∀ t w, st.widen = some t → Sat E w (cel d (rdC s t) :: rows cd_uint8 s st.b :: M) → Q (.bool true) w) (hZ : ∀ w, st.widen = none → Sat E w (cel d (rdC s st) :: rows cd_uint8 s st.b :: M) → Q (.bool false) w) :
    Calls Try.prog 93 #[.pointer (some ⟨d, 0, none⟩)] w (retP Q) := by
  refine pithref08_Decoder_widen.calls ?_
  unfold pithref08_Decoder_widen.F
  by_cases h1 : 16777216 ≤ st.R
  · repeat' (first | (refine pN_geq_s ?_ ?_ <;> intro hc <;> try (exfalso; omega)) | refine pIf_t ?_ | refine pN_l hS (by first | rfl | assumption) ?_ | refine pN_via (by (intro K; simp (disch := omega) only [go_sem, pN_min, pN_max, w_u32, w_u64, Option.isNone_some, Option.isNone_none]; (try simp only [wrap_u32, wrap_u64]); rfl)) ?_ | fail)
    exact hQ st _ (by rw [D.S.widen, if_pos h1]) hS
  · by_cases h2 : st.k = st.b.length
    · repeat' (first | (refine pN_geq_s ?_ ?_ <;> intro hc <;> try (exfalso; omega)) | (refine pA_eql_s ?_ ?_ <;> intro hc <;> try (exfalso; first | omega | exact hc rfl | exact hc (by assumption) | exact absurd hc (by assumption))) | refine pIf_t ?_ | refine pIf_f ?_ | refine pN_l hS (by first | rfl | assumption) ?_ | refine pL_l hS (by first | rfl | assumption) ?_ | (refine pDr_go hS ?_; clear hS; intro w hS) | refine pN_via (by (intro K; simp (disch := omega) only [go_sem, pN_min, pN_max, w_u32, w_u64, Option.isNone_some, Option.isNone_none]; (try simp only [wrap_u32, wrap_u64]); rfl)) ?_ | refine pA_via (by (intro K; simp (disch := omega) only [go_sem, pN_min, pN_max, w_u32, w_u64, Option.isNone_some, Option.isNone_none]; (try simp only [wrap_u32, wrap_u64]); rfl)) ?_ | fail)
      refine hZ _ ?_ hS
      rw [D.S.widen, if_neg h1, List.getElem?_eq_none (by omega)]
    · obtain ⟨x, hx⟩ : ∃ x, st.b[st.k]? = some x := ⟨st.b[st.k]'(by omega), by simp⟩
      have hx2 := x.toNat_lt
      repeat' (first | (refine pN_geq_s ?_ ?_ <;> intro hc <;> try (exfalso; omega)) | (refine pA_eql_s ?_ ?_ <;> intro hc <;> try (exfalso; first | omega | exact hc rfl | exact hc (by assumption) | exact absurd hc (by assumption))) | refine pIf_f ?_ | refine pL_ofb ?_ | refine pN_l hS (by first | rfl | assumption) ?_ | refine pL_l hS (by first | rfl | assumption) ?_ | refine pL_ld1 ha hS ?_ | (refine pN_s hS (by first | exact Nat.le_of_ble_eq_true rfl | assumption) (by rfl) ?_; clear hS; intro w hS; try simp only [List.set_cons_zero, List.set_cons_succ] at hS) | (refine pDr_go hS ?_; clear hS; intro w hS) | refine ⟨trivial, ?_⟩ | refine pA_ixk hS _ (by first | rfl | (exact (Int.toNat_of_nonneg (by omega)).symm)) (by first | rfl | omega | simpa only [go_sem] using True.intro | (simp only [go_sem]; omega)) (by assumption) fun a ha hel => ?_ | refine pN_via (by (intro K; simp (disch := omega) only [go_sem, pN_min, pN_max, w_u32, w_u64, Option.isNone_some, Option.isNone_none]; (try simp only [wrap_u32, wrap_u64]); rfl)) ?_ | refine pA_via (by (intro K; simp (disch := omega) only [go_sem, pN_min, pN_max, w_u32, w_u64, Option.isNone_some, Option.isNone_none]; (try simp only [wrap_u32, wrap_u64]); rfl)) ?_ | fail)
      rw [Int.mul_comm 256, Int.mul_comm 256] at hS
      exact hQ ⟨st.b, st.k + 1, st.R * 256, st.C * 256 + x.toNat⟩ _ (by rw [D.S.widen, if_neg h1, hx]) hS

theorem R8Bit_ok {p : Nat} {l : List Int} (hS : Sat E w (RDec d st :: RSet p l :: M)) (ho : D.Ok st) (hf : B.Fine l) (hb : st.b.length ≤ 140737488355328) (i : Int)
    (hno : ¬ (0 ≤ i ∧ i < l.length) → ∀ w, Sat E w (RDec d st :: RSet p l :: M) → Q (.tuple #[.int .i64 0, .int .i64 7]) w)
    (hok : ∀ t v w, 0 ≤ i → i < l.length → st.bit (B.bound st.R (l.getD i.toNat 0)) = .ok t v → Sat E w (RDec d t :: RSet p (l.set i.toNat (B.next (l.getD i.toNat 0) v)) :: M) → Q (.tuple #[.int .i64 v, .int .i64 0]) w)
    (hre : ∀ e w, 0 ≤ i → i < l.length → st.bit (B.bound st.R (l.getD i.toNat 0)) = .no e → Sat E w (RDec d st :: RSet p l :: M) → Q (.tuple #[.int .i64 0, .int .i64 e]) w) :
    Calls Try.prog 50 #[.pointer (some ⟨d, 0, none⟩), .pointer (some ⟨p, 0, none⟩), .int .i64 i] w (retP Q) := by
  refine pithref08_Decoder_Bit.calls ?_
  unfold pithref08_Decoder_Bit.F
  refine pc_pithref06_Set_At (RAt_ok (hS.fd (RSet p)) i fun w hS => ?_)
  by_cases h : 0 ≤ i ∧ i < l.length
  rotate_left 1
  · simp only [if_neg h]
    repeat' (first | (refine pN_neq_s ?_ ?_ <;> intro hc <;> try (exfalso; first | omega | exact hc rfl | exact hc (by assumption) | exact absurd hc (by assumption))) | refine pIf_t ?_ | refine pN_via (by (intro K; simp (disch := omega) only [go_sem, pN_min, pN_max, w_u32, w_u64, Option.isNone_some, Option.isNone_none]; (try simp only [wrap_u32, wrap_u64]); rfl)) ?_ | fail)
    exact hno h _ hS.to
  simp only [if_pos h]
  obtain ⟨x, hx⟩ : ∃ x, l[i.toNat]? = some x := ⟨l[i.toNat]'(by omega), by simp⟩
  have hxe : l.getD i.toNat 0 = x := by rw [List.getD_eq_getElem?_getD, hx]; rfl
  rw [hxe] at hok hre ⊢
  have hxf := hf.get hx
  have hmid := D.bound_mid ho.r0 hxf.1 hxf.2
  have q1 := ho.r0
  have q2 := ho.r1
  have q3 := ho.c0
  have q4 := ho.c1
  have hco := ho.cut hmid.1 hmid.2
  have hc0 := B.bound_pos (rng := st.R) (p := x) q1 hxf.1
  have hc1 := B.bound_lt (rng := st.R) (p := x) q1
  have hv : st.bitAt (B.bound st.R x) = if st.C < B.bound st.R x then 0 else 1 := rfl
  have e1 : st.cut (B.bound st.R x) = if st.C < B.bound st.R x then ⟨st.b, st.k, B.bound st.R x, st.C⟩ else ⟨st.b, st.k, st.R - B.bound st.R x, st.C - B.bound st.R x⟩ := rfl
  obtain ⟨s, hS⟩ := RDec.opn (hS.fd (RDec d))
  repeat' (first | (refine pN_neq_s ?_ ?_ <;> intro hc <;> try (exfalso; first | omega | exact hc rfl | exact hc (by assumption) | exact absurd hc (by assumption))) | refine pIf_f ?_ | refine pN_l hS (by first | rfl | assumption) ?_ | refine pN_via (by (intro K; simp (disch := omega) only [go_sem, pN_min, pN_max, w_u32, w_u64, Option.isNone_some, Option.isNone_none]; (try simp only [wrap_u32, wrap_u64]); rfl)) ?_ | fail)
  refine pc_pithref06_Bound (RBound_ok st.R x (by omega) (by omega) ?_)
  repeat' (first | (refine pc_pithref08_Decoder_Fork (R8Fork_ok hS ?_); clear hS; intro f w hS) | refine pN_via (by (intro K; simp (disch := omega) only [go_sem, pN_min, pN_max, w_u32, w_u64, Option.isNone_some, Option.isNone_none]; (try simp only [wrap_u32, wrap_u64]); rfl)) ?_ | fail)
  refine ⟨fun v w => v = .int .i64 (st.bitAt (B.bound st.R x)) ∧ Sat E w (cel f (rdC s (st.cut (B.bound st.R x))) :: rows cd_uint8 s st.b :: cel d (rdC s st) :: RSet p l :: M), ?_, ?_⟩
  · by_cases hlt : st.C < B.bound st.R x
    · rw [if_pos hlt] at hv e1
      rw [hv, e1]
      repeat' (first | (refine pN_lss_s ?_ ?_ <;> intro hc <;> try (exfalso; omega)) | refine pIf_t ?_ | refine pN_l hS (by first | rfl | assumption) ?_ | (refine pN_s hS (by first | exact Nat.le_of_ble_eq_true rfl | assumption) (by rfl) ?_; clear hS; intro w hS; try simp only [List.set_cons_zero, List.set_cons_succ] at hS) | refine pN_via (by (intro K; simp (disch := omega) only [go_sem, pN_min, pN_max, w_u32, w_u64, Option.isNone_some, Option.isNone_none]; (try simp only [wrap_u32, wrap_u64]); rfl)) ?_ | fail)
      exact ⟨rfl, hS.fd2 (cel f) (rows cd_uint8 s)⟩
    · rw [if_neg hlt] at hv e1
      rw [hv, e1]
      repeat' (first | (refine pN_lss_s ?_ ?_ <;> intro hc <;> try (exfalso; omega)) | refine pIf_f ?_ | refine pN_l hS (by first | rfl | assumption) ?_ | (refine pN_s hS (by first | exact Nat.le_of_ble_eq_true rfl | assumption) (by rfl) ?_; clear hS; intro w hS; try simp only [List.set_cons_zero, List.set_cons_succ] at hS) | refine pN_via (by (intro K; simp (disch := omega) only [go_sem, pN_min, pN_max, w_u32, w_u64, Option.isNone_some, Option.isNone_none]; (try simp only [wrap_u32, wrap_u64]); rfl)) ?_ | fail)
      exact ⟨rfl, hS.fd2 (cel f) (rows cd_uint8 s)⟩
  clear hS
  rintro _ _ w ⟨rfl, hS⟩
  have hcb := hco.b
  have hcr := hco.r0
  have hS : Sat E w (cel f (rdC s (st.cut (B.bound st.R x))) :: rows cd_uint8 s (st.cut (B.bound st.R x)).b :: cel d (rdC s st) :: RSet p l :: M) := by rw [hcb]; exact hS
  refine pc_pithref08_Decoder_widen (R8widen_ok hS hco.k (by rw [hcb]; exact hb) (by omega) hco.c0 hco.c1 (fun t w ht hS => ?_) fun w hnone hS => ?_)
  · have htb := (D.widen_b ht).trans hcb
    repeat' (first | (refine pc_pithref06_Set_Turn (RTurn_ok (hS.fd (RSet p)) i _ ?_); clear hS; intro w hS) | refine pIf_f ?_ | refine pN_la hS (by rfl) ?_ | (refine pN_sa hS (by rfl) (by rfl) (by rfl) ?_; clear hS; intro w hS; try dsimp only at hS) | refine pN_via (by (intro K; simp (disch := omega) only [go_sem, pN_min, pN_max, w_u32, w_u64, Option.isNone_some, Option.isNone_none]; (try simp only [wrap_u32, wrap_u64]); rfl)) ?_ | fail)
    simp only [if_pos h, hxe] at hS
    refine hok t _ _ h.1 h.2 (by rw [D.S.bit, ht]) ?_
    have hS : Sat E w (cel d (rdC s t) :: rows cd_uint8 s t.b :: RSet p (l.set i.toNat (B.next x (st.bitAt (B.bound st.R x)))) :: M) := by
      rw [htb, ← hcb]
      exact (hS.fd2 (cel d) (rows cd_uint8 s)).to
    exact RDec.shut (d := d) (s := s) hS t rfl rfl
  · repeat' (first | refine pIf_t ?_ | refine pN_via (by (intro K; simp (disch := omega) only [go_sem, pN_min, pN_max, w_u32, w_u64, Option.isNone_some, Option.isNone_none]; (try simp only [wrap_u32, wrap_u64]); rfl)) ?_ | fail)
    have hS : Sat E w (cel d (rdC s st) :: rows cd_uint8 s st.b :: RSet p l :: M) := by
      rw [← hcb]
      exact (hS.fd2 (cel d) (rows cd_uint8 s)).to
    exact hre 1 _ h.1 h.2 (by rw [D.S.bit, hnone]) (RDec.shut (d := d) (s := s) hS st rfl rfl)

theorem R8Used_ok (hS : Sat E w (RDec d st :: M)) (hQ : ∀ w, Sat E w (RDec d st :: M) → Q (.int .i64 st.k) w) : Calls Try.prog 52 #[.pointer (some ⟨d, 0, none⟩)] w (retP Q) := by
  refine pithref08_Decoder_Used.calls ?_
  unfold pithref08_Decoder_Used.F
  obtain ⟨s, hS⟩ := RDec.opn hS
  repeat' (first | refine pN_l hS (by first | rfl | assumption) ?_ | refine pN_via (by (intro K; simp (disch := omega) only [go_sem, pN_min, pN_max, w_u32, w_u64, Option.isNone_some, Option.isNone_none]; (try simp only [wrap_u32, wrap_u64]); rfl)) ?_ | fail)
  exact hQ _ (RDec.shut (d := d) (s := s) hS st rfl rfl)

theorem R8Done_ok (hS : Sat E w (RDec d st :: M)) (hQ : ∀ w, Sat E w (RDec d st :: M) → Q (.bool (decide (st.k = st.b.length ∧ st.C = 0))) w) : Calls Try.prog 54 #[.pointer (some ⟨d, 0, none⟩)] w (retP Q) := by
  refine pithref08_Decoder_Done.calls ?_
  unfold pithref08_Decoder_Done.F
  obtain ⟨s, hS⟩ := RDec.opn hS
  have hQ := fun w h => hQ w (RDec.shut (d := d) (s := s) (L := cel d (rdC s st) :: rows cd_uint8 s st.b :: M) h st rfl rfl)
  by_cases h1 : st.k = st.b.length
  · by_cases h2 : st.C = 0
    · rw [decide_eq_true ⟨h1, h2⟩] at hQ
      repeat' (first | (refine pA_eql_s ?_ ?_ <;> intro hc <;> try (exfalso; first | omega | exact hc rfl | exact hc (by assumption) | exact absurd hc (by assumption))) | refine gA_go (by rfl) ?_ | refine pL_l hS (by first | rfl | assumption) ?_ | (refine pDr_go hS ?_; clear hS; intro w hS) | refine pA_via (by (intro K; simp (disch := omega) only [go_sem, pN_min, pN_max, w_u32, w_u64, Option.isNone_some, Option.isNone_none]; (try simp only [wrap_u32, wrap_u64]); rfl)) ?_ | fail)
      exact hQ _ hS
    · rw [decide_eq_false (fun h => h2 h.2)] at hQ
      repeat' (first | (refine pA_eql_s ?_ ?_ <;> intro hc <;> try (exfalso; first | omega | exact hc rfl | exact hc (by assumption) | exact absurd hc (by assumption))) | refine gA_go (by rfl) ?_ | refine pL_l hS (by first | rfl | assumption) ?_ | (refine pDr_go hS ?_; clear hS; intro w hS) | refine pA_via (by (intro K; simp (disch := omega) only [go_sem, pN_min, pN_max, w_u32, w_u64, Option.isNone_some, Option.isNone_none]; (try simp only [wrap_u32, wrap_u64]); rfl)) ?_ | fail)
      exact hQ _ hS
  · rw [decide_eq_false (fun h => h1 h.1)] at hQ
    repeat' (first | (refine pA_eql_s ?_ ?_ <;> intro hc <;> try (exfalso; first | omega | exact hc rfl | exact hc (by assumption) | exact absurd hc (by assumption))) | refine gA_no (by rfl) ?_ | refine pL_l hS (by first | rfl | assumption) ?_ | (refine pDr_go hS ?_; clear hS; intro w hS) | refine pA_via (by (intro K; simp (disch := omega) only [go_sem, pN_min, pN_max, w_u32, w_u64, Option.isNone_some, Option.isNone_none]; (try simp only [wrap_u32, wrap_u64]); rfl)) ?_ | fail)
    exact hQ _ hS

set_option maxHeartbeats 2000000 in
theorem R8Direct_ok (hS : Sat E w (RDec d st :: M)) (ho : D.Ok st) (hb : st.b.length ≤ 140737488355328) (n : Int)
    (hno : ¬ (0 ≤ n ∧ n ≤ 32) → ∀ w, Sat E w (RDec d st :: M) → Q (.tuple #[.int .u32 0, .int .i64 7]) w)
    (hok : ∀ t v w, 0 ≤ n → n ≤ 32 → st.direct 0 n.toNat = .ok t v → Sat E w (RDec d t :: M) → Q (.tuple #[.int .u32 v, .int .i64 0]) w)
    (hre : ∀ e w, 0 ≤ n → n ≤ 32 → st.direct 0 n.toNat = .no e → Sat E w (RDec d st :: M) → Q (.tuple #[.int .u32 0, .int .i64 e]) w) :
    Calls Try.prog 48 #[.pointer (some ⟨d, 0, none⟩), .int .i64 n] w (retP Q) := by
  refine pithref08_Decoder_Direct.calls ?_
  unfold pithref08_Decoder_Direct.F
  by_cases h : 0 ≤ n ∧ n ≤ 32
  rotate_left 1
  · repeat' (first | ((first | refine pN_lss_s ?_ ?_ | refine pN_gtr_s ?_ ?_) <;> intro hc <;> try (exfalso; omega)) | refine pIf_t ?_ | refine pGd_go (by rfl) ?_ | refine pGd_no (by rfl) ?_ | refine pN_via (by (intro K; simp (disch := omega) only [go_sem, pN_min, pN_max, w_u32, w_u64, Option.isNone_some, Option.isNone_none]; (try simp only [wrap_u32, wrap_u64]); rfl)) ?_ | fail)
    all_goals exact hno h _ hS.to
  obtain ⟨m, rfl⟩ : ∃ m : Nat, n = m := ⟨n.toNat, by omega⟩
  rw [Int.toNat_natCast] at hok hre
  obtain ⟨s, hS⟩ := RDec.opn hS
  repeat' (first | (refine pc_pithref08_Decoder_Fork (R8Fork_ok hS ?_); clear hS; intro f w hS) | ((first | refine pN_lss_s ?_ ?_ | refine pN_gtr_s ?_ ?_) <;> intro hc <;> try (exfalso; omega)) | refine pIf_f ?_ | refine pGd_go (by rfl) ?_ | refine pN_via (by (intro K; simp (disch := omega) only [go_sem, pN_min, pN_max, w_u32, w_u64, Option.isNone_some, Option.isNone_none]; (try simp only [wrap_u32, wrap_u64]); rfl)) ?_ | fail)
  refine ⟨fun c i w => ∃ (j : Nat) (t : D.S) (v : Int), c = .int .i64 v ∧ i = .int .i64 j ∧ j ≤ m ∧ D.Ok t ∧ t.b = st.b ∧ 0 ≤ v ∧ v < 2 ^ j ∧ t.direct v (m - j) = st.direct 0 m ∧ Sat E w (cel f (rdC s t) :: rows cd_uint8 s st.b :: cel d (rdC s st) :: M), fun _ i _ => m - (RowKit.intOf i).toNat, ⟨0, st, 0, rfl, rfl, Nat.zero_le _, ho, rfl, by omega, by simp, rfl, hS.to⟩, ?_⟩
  clear hS
  rintro _ _ _ w ⟨j, t, v, rfl, rfl, hj, hot, htb, v0, v1, htd, hS⟩
  by_cases hlt : j < m
  · rw [show m - j = (m - (j + 1)) + 1 from by omega, D.S.direct] at htd
    have h32 : (2 : Int) ^ j ≤ 2147483648 := by
      have : (2 : Int) ^ 31 = 2147483648 := by decide
      rw [← this]
      exact R.two_le (by omega)
    have q0 := hot.r0
    have q1 := hot.r1
    have q2 := hot.c0
    have q3 := hot.c1
    have one := hot.one
    have o1 := one.c1
    have hbit : t.bitAt (t.R / 2) = if t.C < t.R / 2 then 0 else 1 := rfl
    have e1 : t.one = if t.C < t.R / 2 then ⟨t.b, t.k, t.R / 2, t.C⟩ else ⟨t.b, t.k, t.R / 2, t.C - t.R / 2⟩ := rfl
    have oR : t.one.R = t.R / 2 := by rw [e1]; split <;> rfl
    have ob := one.b
    have o0 := one.r0
    have oc := one.c0
    repeat' (first | (refine pN_lss_s ?_ ?_ <;> intro hc <;> try (exfalso; omega)) | refine pIf_t ?_ | fail)
    refine ⟨fun c w => ∃ t2 : D.S, c = .int .i64 (2 * v + t.bitAt (t.R / 2)) ∧ t.one.widen = some t2 ∧ ¬ t.one.R ≤ t.one.C ∧ Sat E w (cel f (rdC s t2) :: rows cd_uint8 s st.b :: cel d (rdC s st) :: M), ?_, ?_⟩
    rotate_left 1
    · clear hS
      rintro _ _ w ⟨t2, rfl, ht2, hnle, hS⟩
      rw [if_neg hnle, ht2] at htd
      have ho2 := one.widen (by omega) ht2
      have hb01 := D.bitAt_01 t (t.R / 2)
      repeat' (first | refine pN_via (by (intro K; simp (disch := omega) only [go_sem, pN_min, pN_max, w_u32, w_u64, Option.isNone_some, Option.isNone_none]; (try simp only [wrap_u32, wrap_u64]); rfl)) ?_ | fail)
      exact ⟨⟨j + 1, t2, 2 * v + t.bitAt (t.R / 2), rfl, rfl, by omega, ho2.1, ho2.2.trans htb, by omega, by rw [Int.pow_succ]; omega, htd, hS⟩, by simp [RowKit.intOf] <;> omega⟩
    repeat' (first | refine pN_l hS (by first | rfl | assumption) ?_ | (refine pN_s hS (by first | exact Nat.le_of_ble_eq_true rfl | assumption) (by rfl) ?_; clear hS; intro w hS; try simp only [List.set_cons_zero, List.set_cons_succ] at hS) | refine pN_via (by (intro K; simp (disch := omega) only [go_sem, pN_min, pN_max, w_u32, w_u64, Option.isNone_some, Option.isNone_none]; (try simp only [wrap_u32, wrap_u64]); rfl)) ?_ | fail)
    refine ⟨fun c w => c = .int .i64 (2 * v + t.bitAt (t.R / 2)) ∧ Sat E w (cel f (rdC s t.one) :: rows cd_uint8 s st.b :: cel d (rdC s st) :: M), ?_, ?_⟩
    · by_cases hge : t.C < t.R / 2
      · rw [if_pos hge] at hbit e1
        rw [hbit, e1, Int.add_zero]
        repeat' (first | (refine pA_geq_s ?_ ?_ <;> intro hc <;> try (exfalso; omega)) | refine pIf_f ?_ | refine pL_l hS (by first | rfl | assumption) ?_ | (refine pDr_go hS ?_; clear hS; intro w hS) | refine pA_via (by (intro K; simp (disch := omega) only [go_sem, pN_min, pN_max, w_u32, w_u64, Option.isNone_some, Option.isNone_none]; (try simp only [wrap_u32, wrap_u64]); rfl)) ?_ | fail)
        exact ⟨rfl, hS.to⟩
      · rw [if_neg hge] at hbit e1
        rw [hbit, e1]
        repeat' (first | (refine pA_geq_s ?_ ?_ <;> intro hc <;> try (exfalso; omega)) | refine pIf_t ?_ | refine pL_l hS (by first | rfl | assumption) ?_ | (refine pN_s hS (by first | exact Nat.le_of_ble_eq_true rfl | assumption) (by rfl) ?_; clear hS; intro w hS; try simp only [List.set_cons_zero, List.set_cons_succ] at hS) | (refine pDr_go hS ?_; clear hS; intro w hS) | refine ⟨trivial, ?_⟩ | refine pN_via (by (intro K; simp (disch := omega) only [go_sem, pN_min, pN_max, w_u32, w_u64, Option.isNone_some, Option.isNone_none]; (try simp only [wrap_u32, wrap_u64]); rfl)) ?_ | refine pA_via (by (intro K; simp (disch := omega) only [go_sem, pN_min, pN_max, w_u32, w_u64, Option.isNone_some, Option.isNone_none]; (try simp only [wrap_u32, wrap_u64]); rfl)) ?_ | fail)
        exact ⟨rfl, hS.to⟩
    clear hS
    rintro _ _ w ⟨rfl, hS⟩
    have hS : Sat E w (cel f (rdC s t.one) :: rows cd_uint8 s t.one.b :: cel d (rdC s st) :: M) := by rw [ob, htb]; exact hS
    by_cases hle : t.one.R ≤ t.one.C
    · rw [if_pos hle] at htd
      repeat' (first | (refine pA_geq_s ?_ ?_ <;> intro hc <;> try (exfalso; omega)) | refine pIf_t ?_ | refine pL_l hS (by first | rfl | assumption) ?_ | (refine pDr_go hS ?_; clear hS; intro w hS) | refine pA_via (by (intro K; simp (disch := omega) only [go_sem, pN_min, pN_max, w_u32, w_u64, Option.isNone_some, Option.isNone_none]; (try simp only [wrap_u32, wrap_u64]); rfl)) ?_ | fail)
      have hS : Sat E w (cel d (rdC s st) :: rows cd_uint8 s st.b :: M) := by rw [← htb, ← ob]; exact (hS.fd2 (cel d) (rows cd_uint8 s)).to
      exact hre 2 _ h.1 h.2 htd.symm (RDec.shut (d := d) (s := s) hS st rfl rfl)
    · rw [if_neg hle] at htd
      repeat' (first | (refine pA_geq_s ?_ ?_ <;> intro hc <;> try (exfalso; omega)) | refine pIf_f ?_ | refine pL_l hS (by first | rfl | assumption) ?_ | (refine pDr_go hS ?_; clear hS; intro w hS) | refine pA_via (by (intro K; simp (disch := omega) only [go_sem, pN_min, pN_max, w_u32, w_u64, Option.isNone_some, Option.isNone_none]; (try simp only [wrap_u32, wrap_u64]); rfl)) ?_ | fail)
      refine pc_pithref08_Decoder_widen (R8widen_ok (hS.fd2 (cel f) (rows cd_uint8 s)) one.k (by rw [ob, htb]; exact hb) (by omega) oc (by omega) (fun t2 w ht2 hS => ?_) fun w hnone hS => ?_)
      · repeat' (first | refine pIf_f ?_ | refine pN_via (by (intro K; simp (disch := omega) only [go_sem, pN_min, pN_max, w_u32, w_u64, Option.isNone_some, Option.isNone_none]; (try simp only [wrap_u32, wrap_u64]); rfl)) ?_ | fail)
        rw [ob, htb] at hS
        exact ⟨t2, rfl, ht2, hle, hS⟩
      · rw [hnone] at htd
        repeat' (first | refine pIf_t ?_ | refine pN_via (by (intro K; simp (disch := omega) only [go_sem, pN_min, pN_max, w_u32, w_u64, Option.isNone_some, Option.isNone_none]; (try simp only [wrap_u32, wrap_u64]); rfl)) ?_ | fail)
        have hS : Sat E w (cel d (rdC s st) :: rows cd_uint8 s st.b :: M) := by rw [← htb, ← ob]; exact (hS.fd2 (cel d) (rows cd_uint8 s)).to
        exact hre 1 _ h.1 h.2 htd.symm (RDec.shut (d := d) (s := s) hS st rfl rfl)
  · obtain rfl : j = m := by omega
    rw [Nat.sub_self, D.S.direct] at htd
    have h32 : (2 : Int) ^ j ≤ 4294967296 := by
      have : (2 : Int) ^ 32 = 4294967296 := by decide
      rw [← this]
      exact R.two_le (by omega)
    repeat' (first | (refine pN_lss_s ?_ ?_ <;> intro hc <;> try (exfalso; omega)) | refine pIf_f ?_ | refine pN_la hS (by rfl) ?_ | (refine pN_sa hS (by rfl) (by rfl) (by rfl) ?_; clear hS; intro w hS; try dsimp only at hS) | refine pN_via (by (intro K; simp (disch := omega) only [go_sem, pN_min, pN_max, w_u32, w_u64, Option.isNone_some, Option.isNone_none]; (try simp only [wrap_u32, wrap_u64]); rfl)) ?_ | fail)
    have er : rows cd_uint8 s st.b = rows cd_uint8 s t.b := by rw [htb]
    rw [er] at hS
    have hS : Sat E w (cel d (rdC s t) :: rows cd_uint8 s t.b :: cel f (rdC s t) :: M) := hS.fd2 (cel d) (rows cd_uint8 s)
    have hS : Sat E w (cel d (rdC s t) :: rows cd_uint8 s t.b :: M) := hS.to
    exact hok t v _ h.1 h.2 htd.symm (RDec.shut (d := d) (s := s) hS t rfl rfl)

theorem R8New_ok {s0 : Sl} {l : List UInt8} (hS : Sat E w M) [hr : Rds cd_uint8 M s0 l] (hb : l.length ≤ 140737488355328)
    (hok : ∀ t d w, D.start l = .ok t () → Sat E w (RDec d t :: M) → Q (.tuple #[.pointer (some ⟨d, 0, none⟩), .int .i64 0]) w)
    (hre : ∀ e w, D.start l = .no e → Sat E w M → Q (.tuple #[.pointer none, .int .i64 e]) w) :
    Calls Try.prog 43 #[.slice s0.a l.length s0.c] w (retP Q) := by
  refine pithref08_New.calls ?_
  unfold pithref08_New.F
  by_cases h5 : l.length < 5
  · repeat' (first | (refine pN_lss_s ?_ ?_ <;> intro hc <;> try (exfalso; omega)) | refine pIf_t ?_ | refine pN_via (by (intro K; simp (disch := omega) only [go_sem, pN_min, pN_max, w_u32, w_u64, Option.isNone_some, Option.isNone_none]; (try simp only [wrap_u32, wrap_u64]); rfl)) ?_ | fail)
    exact hre 1 _ (by rw [D.start, if_pos h5]) hS
  obtain ⟨b0, hb0⟩ : ∃ x, l[0]? = some x := ⟨l[0]'(by omega), by simp⟩
  repeat' (first | (refine pN_lss_s ?_ ?_ <;> intro hc <;> try (exfalso; omega)) | refine pIf_f ?_ | refine pN_via (by (intro K; simp (disch := omega) only [go_sem, pN_min, pN_max, w_u32, w_u64, Option.isNone_some, Option.isNone_none]; (try simp only [wrap_u32, wrap_u64]); rfl)) ?_ | fail)
  refine ⟨fun c v w => ∃ i : Nat, c = .int .i64 (D.front l i) ∧ v = .int .i64 ((i + 1 : Nat) : Int) ∧ i ≤ 4 ∧ Sat E w M, fun _ v _ => 5 - (RowKit.intOf v).toNat, ⟨0, by rw [D.front_0], rfl, by omega, hS⟩, ?_⟩
  clear hS
  rintro _ _ _ w ⟨i, rfl, rfl, hi, hS⟩
  by_cases hlt : i < 4
  · obtain ⟨x, hx⟩ : ∃ x, l[i + 1]? = some x := ⟨l[i + 1]'(by omega), by simp⟩
    have hx2 := x.toNat_lt
    have hfs := D.front_succ l i hx
    have hf3 := D.front_lt l i (by omega)
    have e3 : 256 * D.front l i + (x.toNat : Int) = D.front l (i + 1) := by rw [hfs, Int.mul_comm]
    repeat' (first | (refine pN_lss_s ?_ ?_ <;> intro hc <;> try (exfalso; omega)) | refine pIf_t ?_ | refine pN_ofb ?_ | refine pN_ld1 ha hS ?_ | refine pN_ixk hS _ (by first | rfl | (exact (Int.toNat_of_nonneg (by omega)).symm)) (by first | rfl | omega | simpa only [go_sem] using True.intro | (simp only [go_sem]; omega)) (by assumption) fun a ha hel => ?_ | refine pN_via (by (intro K; simp (disch := omega) only [go_sem, pN_min, pN_max, w_u32, w_u64, Option.isNone_some, Option.isNone_none]; (try simp only [wrap_u32, wrap_u64]); rfl)) ?_ | fail)
    rw [e3]
    exact ⟨⟨i + 1, rfl, rfl, by omega, hS⟩, by simp [RowKit.intOf] <;> omega⟩
  · obtain rfl : i = 4 := by omega
    have hf4 := D.front_bd l 4 (by omega)
    have h4 : (256 : Int) ^ 4 = 4294967296 := by decide
    have hst : D.start l = if b0 ≠ 0 ∨ D.front l 4 = 4294967295 then .no 2 else .ok ⟨l, 5, 4294967295, D.front l 4⟩ () := by
      rw [D.start, if_neg h5, hb0]; simp
    have hbe : b0 = 0 ↔ (b0.toNat : Int) = ((0 : UInt8).toNat : Int) := ⟨fun e => by rw [e], fun e => UInt8.toNat_inj.1 (by omega)⟩
    repeat' (first | (refine pN_lss_s ?_ ?_ <;> intro hc <;> try (exfalso; omega)) | ((first | refine pN_eql_s ?_ ?_ | refine pN_neq_s ?_ ?_) <;> intro hc <;> try (exfalso; first | omega | exact hc rfl | exact hc (by assumption) | exact absurd hc (by assumption))) | refine pIf_t ?_ | refine pIf_f ?_ | refine pGd_go (by rfl) ?_ | refine pGd_no (by rfl) ?_ | refine pN_l hS (by first | rfl | assumption) ?_ | refine pN_ld1 ha hS ?_ | (refine pN_s hS (by first | exact Nat.le_of_ble_eq_true rfl | assumption) (by rfl) ?_; clear hS; intro w hS; try simp only [List.set_cons_zero, List.set_cons_succ] at hS) | (refine pN_bx hS (by rfl) ?_; clear hS; intro a w hS) | refine pN_ixk hS _ (by first | rfl | (exact (Int.toNat_of_nonneg (by omega)).symm)) (by first | rfl | omega | simpa only [go_sem] using True.intro | (simp only [go_sem]; omega)) (by assumption) fun a ha hel => ?_ | (refine pN_app0 hS (by first | rfl | omega | simpa only [go_sem] using True.intro | (simp only [go_sem]; omega)) (by first | omega | (simp only [go_sem]; omega)) ?_; clear hS; intro s w hS) | refine pN_via (by (intro K; simp (disch := omega) only [go_sem, pN_min, pN_max, w_u32, w_u64, Option.isNone_some, Option.isNone_none]; (try simp only [wrap_u32, wrap_u64]); rfl)) ?_ | fail)
    · exact hre 2 _ (by rw [hst, if_pos (.inr hc)]) hS
    · have hS := RDec.shut (d := a) (s := s) hS ⟨l, 5, 4294967295, D.front l 4⟩ rfl rfl
      refine hok ⟨l, 5, 4294967295, D.front l 4⟩ _ _ ?_ hS
      rw [hst, if_neg]
      rintro (h | h)
      · exact h (hbe.2 (by assumption))
      · exact hc h
    · exact hre 2 _ (by rw [hst, if_pos (.inl fun e => hc (hbe.1 e))]) hS
end

end Go.Proofs.Ytoejaggkedlfmaa
