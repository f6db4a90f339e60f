/-
  Package rcdec: the decoder.
-/
import Derived.Test.YtoejaggkedlfmaaLfRcdec
import Derived.Test.YtoejaggkedlfmaaPart
import Derived.Test.YtoejaggkedlfmaaDecP
namespace Go.Proofs.Ytoejaggkedlfmaa
open Go
set_option linter.unusedSimpArgs false
set_option linter.unnecessarySimpa false
set_option linter.unusedSectionVars false
set_option linter.unusedVariables false
attribute [local irreducible] oMv oV oU oCall oCallV oBi oBin oUn oLoad oStore oNil oFld oField oIdx oIndex oPick oAlloc oBox oBuild oBs oConv oMk oSl oExt oFn oIface oMap oLook oMapUp oRange oNext oAssert oPanic oRes pN pA pL pDr pIf gA pGd
attribute [local irreducible] oDf pDf dE

/-- A decoder in block d. -/
def Dec (d : Nat) (st : D.S) : HA := fun h => ∃ s : Sl, Sats [cel d ⟨149, [.slice s.a st.b.length s.c, .int .i64 st.k, .int .u32 st.R, .int .u32 st.C]⟩, rows cd_uint8 s st.b] h
/-- What a decoder panics with. -/
abbrev refd (e : Int) : Value := .iface 154 (.int .i64 e)

section
variable {E w : World} {M : List HA} {Q : Value → World → Prop} {d : Nat} {st : D.S}

theorem Dec.opn (hS : Sat E w (Dec d st :: M)) : ∃ s : Sl, Sat E w (cel d ⟨149, [.slice s.a st.b.length s.c, .int .i64 st.k, .int .u32 st.R, .int .u32 st.C]⟩ :: rows cd_uint8 s st.b :: M) := by
  obtain ⟨s, hS⟩ := hS.ex
  exact ⟨s, hS.open_ (M := [_, _]) fun _ h => h⟩
theorem Dec.shut {s : Sl} {L N : List HA} {o : Ob} {l : List UInt8} (hS : Sat E w L) (st : D.S) [h1 : Fnd (cel d) L o N] [h2 : Fnd (rows cd_uint8 s) N l M] (ho : o = ⟨149, [.slice s.a l.length s.c, .int .i64 st.k, .int .u32 st.R, .int .u32 st.C]⟩) (hl : l = st.b) : Sat E w (Dec d st :: M) := by
  subst hl
  subst ho
  exact Sat.shut (M := [_, _]) (hS.fd2 (cel d) (rows cd_uint8 s)) fun _ h => ⟨s, h⟩

section
variable [Pan] {K : Value → World → Prop} {J : Value → Prop} {t : TypeId} {xo yo : Operand} {a b : Int}
theorem pN_ifr {n : Int} (hk : K (refd n) w) : pN Try.prog (oIface 154 (.int .i64 n)) w K := by
  have : (oIface 154 (.int .i64 n)).run Try.prog w = .ok (.value (refd n)) w := by kernel_rfl
  rw [pN_def, this, rN_value]; exact hk
theorem pN_pnr {n : Int} (h : Pan.z [{ v := refd n, recovered := false }] w) : pN Try.prog (oPanic (refd n)) w K := pN_panic (by kernel_rfl) h
theorem pN_orl (c : Int) (j : Nat) (hc : c = 2 ^ j) (ha : 0 ≤ a) (hb : 0 ≤ b ∧ b < c) (h : a * c + b < 4294967296) (hk : K (.int .u32 (a * c + b)) w) : pN Try.prog (oBin .or t xo yo (.int .u32 (a * c)) (.int .u32 b)) w K := by
  subst hc
  have e := or_low IntKind.u32.bits a b j ha hb.1 hb.2 h
  rw [pN_or, e, w_u32 (by have := Int.mul_nonneg ha (Int.le_of_lt (Int.pow_pos (n := 2) (m := j) (by omega))); omega)]
  exact hk
theorem pA_orl (c : Int) (j : Nat) (hc : c = 2 ^ j) (ha : 0 ≤ a) (hb : 0 ≤ b ∧ b < c) (h : a * c + b < 4294967296) (hk : J (.int .u32 (a * c + b))) : pA Try.prog (oBin .or t xo yo (.int .u32 (a * c)) (.int .u32 b)) J := by
  subst hc
  have e := or_low IntKind.u32.bits a b j ha hb.1 hb.2 h
  rw [pA_or, e, w_u32 (by have := Int.mul_nonneg ha (Int.le_of_lt (Int.pow_pos (n := 2) (m := j) (by omega))); omega)]
  exact hk
end

theorem Dwiden_ok [Pan] (hS : Sat E w (Dec d st :: M)) (hk : st.k ≤ st.b.length) (hb : st.b.length ≤ 225000000000000) (r0 : 0 < st.R) (c0 : 0 ≤ st.C) (c1 : st.C < st.R)
    (hQ : ∀ t w, st.widen = some t → Sat E w (Dec d t :: M) → Q (.tuple #[]) w) (hZ : ∀ w, st.widen = none → Sat E w (Dec d st :: M) → Pan.z [{ v := refd 1, recovered := false }] w) :
    Calls Try.prog 91 #[.pointer (some ⟨d, 0, none⟩)] w (retP Q) := by
  refine rcdec_Decoder_widen.calls ?_
  unfold rcdec_Decoder_widen.F
  obtain ⟨s, hS⟩ := Dec.opn hS
  repeat' (first | (refine pN_geq_s ?_ ?_ <;> intro hc <;> try (exfalso; omega)) | refine pIf_t ?_ | refine pIf_f ?_ | refine pN_l hS (by first | rfl | assumption) ?_ | refine pN_via (by (intro K; simp (disch := omega) only [go_sem, pN_min, pN_max, w_u32, w_u64, Option.isNone_some, Option.isNone_none]; (try simp only [wrap_u32, wrap_u64]); rfl)) ?_ | fail)
  · refine hQ st _ (by rw [D.S.widen, if_pos (by omega)]) (Dec.shut (d := d) (s := s) hS st rfl rfl)
  · refine ⟨fun w => st.k < st.b.length ∧ Sat E w (cel d ⟨149, [.slice s.a st.b.length s.c, .int .i64 st.k, .int .u32 st.R, .int .u32 st.C]⟩ :: rows cd_uint8 s st.b :: M), ?_, ?_⟩
    · repeat' (first | refine pN_ifr ?_ | refine pN_pnr ?_ | (refine pA_eql_s ?_ ?_ <;> intro hc <;> try (exfalso; first | omega | exact hc rfl | exact hc (by assumption) | exact absurd hc (by assumption))) | refine pIf_t ?_ | refine pIf_f ?_ | refine pL_l hS (by first | rfl | assumption) ?_ | (refine pDr_go hS ?_; clear hS; intro w hS) | refine pA_via (by (intro K; simp (disch := omega) only [go_sem, pN_min, pN_max, w_u32, w_u64, Option.isNone_some, Option.isNone_none]; (try simp only [wrap_u32, wrap_u64]); rfl)) ?_ | fail)
      · refine hZ _ ?_ (Dec.shut (d := d) (s := s) hS st rfl rfl)
        rw [D.S.widen, if_neg (by omega), List.getElem?_eq_none (by omega)]
      · exact ⟨by omega, hS⟩
    · clear hS
      rintro _ w ⟨hlt, hS⟩
      obtain ⟨x, hx⟩ : ∃ x, st.b[st.k]? = some x := ⟨st.b[st.k]'hlt, by simp⟩
      have hx2 := x.toNat_lt
      repeat' (first | refine pA_orl 256 8 (by decide) (by omega) (by omega) (by omega) ?_ | refine pL_ofb ?_ | refine pN_l hS (by first | rfl | assumption) ?_ | refine pL_l hS (by first | rfl | assumption) ?_ | refine pL_ld1 ha hS ?_ | (refine pN_s hS (by first | exact Nat.le_of_ble_eq_true rfl | assumption) (by rfl) ?_; clear hS; intro w hS; try simp only [List.set_cons_zero, List.set_cons_succ] at hS) | (refine pDr_go hS ?_; clear hS; intro w hS) | refine ⟨trivial, ?_⟩ | refine pA_ixk hS _ (by first | rfl | (exact (Int.toNat_of_nonneg (by omega)).symm)) (by first | rfl | omega | simpa only [go_sem] using True.intro | (simp only [go_sem]; omega)) (by assumption) fun a ha hel => ?_ | refine pN_via (by (intro K; simp (disch := omega) only [go_sem, pN_min, pN_max, w_u32, w_u64, Option.isNone_some, Option.isNone_none]; (try simp only [wrap_u32, wrap_u64]); rfl)) ?_ | refine pA_via (by (intro K; simp (disch := omega) only [go_sem, pN_min, pN_max, w_u32, w_u64, Option.isNone_some, Option.isNone_none]; (try simp only [wrap_u32, wrap_u64]); rfl)) ?_ | fail)
      refine hQ ⟨st.b, st.k + 1, st.R * 256, st.C * 256 + x.toNat⟩ _ (by rw [D.S.widen, if_neg (by omega), hx]) (Dec.shut (d := d) (s := s) hS ⟨st.b, st.k + 1, st.R * 256, st.C * 256 + x.toNat⟩ rfl rfl)

theorem upper_ok (hS : Sat E w (Dec d st :: M)) (c : Int) (c0 : 0 ≤ c) (h1 : st.C < c → True) (r1 : c ≤ st.R) (r2 : st.R < 4294967296) (hC : 0 ≤ st.C) (hC2 : st.C < st.R)
    (hQ : ∀ w, Sat E w (Dec d (st.cut c) :: M) → Q (.bool (decide (¬ st.C < c))) w) :
    Calls Try.prog 95 #[.pointer (some ⟨d, 0, none⟩), .int .u32 c] w (retP Q) := by
  refine rcdec_Decoder_upper.calls ?_
  unfold rcdec_Decoder_upper.F
  obtain ⟨s, hS⟩ := Dec.opn hS
  repeat' (first | (refine pN_lss_s ?_ ?_ <;> intro hc <;> try (exfalso; omega)) | refine pIf_t ?_ | refine pIf_f ?_ | refine pN_l hS (by first | rfl | assumption) ?_ | (refine pN_s hS (by first | exact Nat.le_of_ble_eq_true rfl | assumption) (by rfl) ?_; clear hS; intro w hS; try simp only [List.set_cons_zero, List.set_cons_succ] at hS) | refine pN_via (by (intro K; simp (disch := omega) only [go_sem, pN_min, pN_max, w_u32, w_u64, Option.isNone_some, Option.isNone_none]; (try simp only [wrap_u32, wrap_u64]); rfl)) ?_ | fail)
  · rw [decide_eq_false (by omega), D.S.cut, if_pos (by omega)] at hQ
    exact hQ _ (Dec.shut (d := d) (s := s) hS ⟨st.b, st.k, c, st.C⟩ rfl rfl)
  · rw [decide_eq_true (by omega), D.S.cut, if_neg (by omega)] at hQ
    exact hQ _ (Dec.shut (d := d) (s := s) hS ⟨st.b, st.k, st.R - c, st.C - c⟩ rfl rfl)

section
variable [Pan] {K : Value → World → Prop} {xo yo : Operand}
theorem pN_eqn {x : Nat} (hk : K (.bool true) w) : pN Try.prog (oBin .eql 20 (.tmp x) (.const .nilIface) .nilIface .nilIface) w K := by
  have : (oBin .eql 20 (.tmp x) (.const .nilIface) .nilIface .nilIface).run Try.prog w = .ok (.value (.bool true)) w := by kernel_rfl
  rw [pN_def, this, rN_value]; exact hk
theorem pN_eqr {n : Int} (hk : K (.bool false) w) : pN Try.prog (oBin .eql 20 xo yo (refd n) .nilIface) w K := by
  have : (oBin .eql 20 xo yo (refd n) .nilIface).run Try.prog w = .ok (.value (.bool false)) w := by kernel_rfl
  rw [pN_def, this, rN_value]; exact hk
theorem pN_asr {n : Int} (hk : K (.tuple #[.int .i64 n, .bool true]) w) : pN Try.prog (oAssert (refd n) 20 154 true) w K := by
  have : (oAssert (refd n) 20 154 true).run Try.prog w = .ok (.value (.tuple #[.int .i64 n, .bool true])) w := by kernel_rfl
  rw [pN_def, this, rN_value]; exact hk
end

theorem back_nil (hS : Sat E w M) {k R C : Int} (hQ : ∀ w, Sat E w M → Q (.int .i64 0) w) :
    Calls Try.prog 90 #[.pointer (some ⟨d, 0, none⟩), .agg #[.int .i64 k, .int .u32 R, .int .u32 C], .nilIface] w (retP Q) := by
  refine rcdec_Decoder_back.calls ?_
  unfold rcdec_Decoder_back.F
  repeat' (first | refine pN_eqn ?_ | refine pIf_t ?_ | (refine pN_bx hS (by rfl) ?_; clear hS; intro a w hS) | fail)
  exact hQ _ hS.to

theorem back_ref (hS : Sat E w (Dec d st :: M)) (k : Nat) (R C e : Int) (hQ : ∀ w, Sat E w (Dec d ⟨st.b, k, R, C⟩ :: M) → Q (.int .i64 e) w) :
    Calls Try.prog 90 #[.pointer (some ⟨d, 0, none⟩), .agg #[.int .i64 k, .int .u32 R, .int .u32 C], refd e] w (retP Q) := by
  refine rcdec_Decoder_back.calls ?_
  unfold rcdec_Decoder_back.F
  obtain ⟨s, hS⟩ := Dec.opn hS
  repeat' (first | refine pN_eqr ?_ | refine pN_asr ?_ | (refine pN_sa_at hS (by rfl) (by exact Nat.le_of_ble_eq_true rfl) (by rfl) ?_; clear hS; intro w hS) | refine pIf_f ?_ | refine pN_la hS (by rfl) ?_ | (refine pN_bx hS (by rfl) ?_; clear hS; intro a w hS) | refine pN_via (by (intro K; simp (disch := omega) only [go_sem, pN_min, pN_max, w_u32, w_u64, Option.isNone_some, Option.isNone_none]; (try simp only [wrap_u32, wrap_u64]); rfl)) ?_ | refine ⟨_, ?_, fun _ _ h => h⟩ | fail)
  have hS : Sat E w (cel d ⟨149, [.slice s.a st.b.length s.c, .int .i64 k, .int .u32 R, .int .u32 C]⟩ :: cel a ⟨147, [.int .i64 k, .int .u32 R, .int .u32 C]⟩ :: rows cd_uint8 s st.b :: M) := hS
  have hS : Sat E w (Dec d ⟨st.b, k, R, C⟩ :: cel a ⟨147, [.int .i64 k, .int .u32 R, .int .u32 C]⟩ :: M) := Dec.shut (d := d) (s := s) hS ⟨st.b, k, R, C⟩ rfl rfl
  exact hQ _ hS.to

/-- The closure of Bit, where nothing panics. -/
theorem BitC_idle {p x7 x6 x3 x4 x5 : Nat} {l : List Int} {i bit : Int} {k R C : Int}
    (hS : Sat E w (Dec d st :: PSet p l :: cel x3 ⟨75, [.pointer (some ⟨d, 0, none⟩)]⟩ :: cel x4 ⟨34, [.pointer (some ⟨p, 0, none⟩)]⟩ :: cel x5 ⟨3, [.int .i64 i]⟩ :: cel x6 ⟨3, [.int .i64 bit]⟩ :: cel x7 ⟨27, [.int .i64 0]⟩ :: M))
    (h0 : 0 ≤ i) (h1 : i < l.length)
    (hQ : ∀ w, Sat E w (Dec d st :: PSet p (l.set i.toNat (B.next (l.getD i.toNat 0) bit)) :: cel x3 ⟨75, [.pointer (some ⟨d, 0, none⟩)]⟩ :: cel x4 ⟨34, [.pointer (some ⟨p, 0, none⟩)]⟩ :: cel x5 ⟨3, [.int .i64 i]⟩ :: cel x6 ⟨3, [.int .i64 bit]⟩ :: cel x7 ⟨27, [.int .i64 0]⟩ :: M) → Q (.tuple #[]) w) :
    rcdec_Decoder_Bit_c1.F .nilIface (.agg #[.int .i64 k, .int .u32 R, .int .u32 C]) (.pointer (some ⟨x3, 0, none⟩)) (.pointer (some ⟨x7, 0, none⟩)) (.pointer (some ⟨x6, 0, none⟩)) (.pointer (some ⟨x4, 0, none⟩)) (.pointer (some ⟨x5, 0, none⟩)) w Q := by
  unfold rcdec_Decoder_Bit_c1.F
  repeat' (first | (refine pc_rcdec_Decoder_back (back_nil (d := d) hS ?_); clear hS; intro w hS) | (refine pc_prob_Set_Turn (Turn_ok (hS.fd (PSet p)) i bit ?_); clear hS; intro w hS) | (refine pN_neq_s ?_ ?_ <;> intro hc <;> try (exfalso; first | omega | exact hc rfl | exact hc (by assumption) | exact absurd hc (by assumption))) | refine pIf_f ?_ | refine pN_l hS (by first | rfl | assumption) ?_ | refine pL_l hS (by first | rfl | assumption) ?_ | refine pL_la hS (by rfl) ?_ | (refine pN_s hS (by first | exact Nat.le_of_ble_eq_true rfl | assumption) (by rfl) ?_; clear hS; intro w hS; try simp only [List.set_cons_zero, List.set_cons_succ] at hS) | (refine pDr_go hS ?_; clear hS; intro w hS) | (refine pN_bx hS (by rfl) ?_; clear hS; intro a w hS) | refine ⟨trivial, ?_⟩ | fail)
  simp only [if_pos (show 0 ≤ i ∧ i < l.length from ⟨h0, h1⟩)] at hS
  exact hQ _ hS.to

/-- The closure of Bit, where the decoder refuses. -/
theorem BitC_ref {p x7 x6 x3 x4 x5 : Nat} {i bit e0 : Int} {k : Nat} {R C e : Int} (he : e ≠ 0)
    (hS : Sat E w (Dec d st :: cel x3 ⟨75, [.pointer (some ⟨d, 0, none⟩)]⟩ :: cel x4 ⟨34, [.pointer (some ⟨p, 0, none⟩)]⟩ :: cel x5 ⟨3, [.int .i64 i]⟩ :: cel x6 ⟨3, [.int .i64 bit]⟩ :: cel x7 ⟨27, [.int .i64 e0]⟩ :: M))
    (hQ : ∀ w, Sat E w (Dec d ⟨st.b, k, R, C⟩ :: cel x3 ⟨75, [.pointer (some ⟨d, 0, none⟩)]⟩ :: cel x4 ⟨34, [.pointer (some ⟨p, 0, none⟩)]⟩ :: cel x5 ⟨3, [.int .i64 i]⟩ :: cel x6 ⟨3, [.int .i64 0]⟩ :: cel x7 ⟨27, [.int .i64 e]⟩ :: M) → Q (.tuple #[]) w) :
    rcdec_Decoder_Bit_c1.F (refd e) (.agg #[.int .i64 k, .int .u32 R, .int .u32 C]) (.pointer (some ⟨x3, 0, none⟩)) (.pointer (some ⟨x7, 0, none⟩)) (.pointer (some ⟨x6, 0, none⟩)) (.pointer (some ⟨x4, 0, none⟩)) (.pointer (some ⟨x5, 0, none⟩)) w Q := by
  unfold rcdec_Decoder_Bit_c1.F
  repeat' (first | (refine pc_rcdec_Decoder_back (back_ref (hS.fd (Dec d)) k R C e ?_); clear hS; intro w hS) | (refine pN_neq_s ?_ ?_ <;> intro hc <;> try (exfalso; first | omega | exact hc rfl | exact hc (by assumption) | exact absurd hc (by assumption))) | refine pIf_t ?_ | refine pN_l hS (by first | rfl | assumption) ?_ | refine pL_l hS (by first | rfl | assumption) ?_ | refine pL_la hS (by rfl) ?_ | (refine pN_s hS (by first | exact Nat.le_of_ble_eq_true rfl | assumption) (by rfl) ?_; clear hS; intro w hS; try simp only [List.set_cons_zero, List.set_cons_succ] at hS) | (refine pDr_go hS ?_; clear hS; intro w hS) | (refine pN_bx hS (by rfl) ?_; clear hS; intro a w hS) | refine ⟨trivial, ?_⟩ | fail)
  exact hQ _ hS.to

theorem DBit_ok {p : Nat} {l : List Int} (hS : Sat E w (Dec d st :: PSet p l :: M)) (ho : D.Ok st) (hf : B.Fine l) (hb : st.b.length ≤ 225000000000000) (i : Int)
    (hno : ¬ (0 ≤ i ∧ i < l.length) → ∀ w, Sat E w (Dec d st :: PSet p l :: M) → Q (.tuple #[.int .i64 0, .int .i64 7]) w)
    (hok : ∀ t v w, 0 ≤ i → i < l.length → st.bit (B.bound st.R (l.getD i.toNat 0)) = .ok t v → Sat E w (Dec d t :: PSet p (l.set i.toNat (B.next (l.getD i.toNat 0) v)) :: M) → Q (.tuple #[.int .i64 v, .int .i64 0]) w)
    (hre : ∀ e w, 0 ≤ i → i < l.length → st.bit (B.bound st.R (l.getD i.toNat 0)) = .no e → Sat E w (Dec d st :: PSet p l :: M) → Q (.tuple #[.int .i64 0, .int .i64 e]) w) :
    Calls Try.prog 49 #[.pointer (some ⟨d, 0, none⟩), .pointer (some ⟨p, 0, none⟩), .int .i64 i] w (retP Q) := by
  refine rcdec_Decoder_Bit.calls ?_
  unfold rcdec_Decoder_Bit.F
  by_cases h : 0 ≤ i ∧ i < l.length
  rotate_left 1
  · repeat' (first | (refine pc_prob_Set_At (At_no (hS.fd (PSet p)) i h ?_); clear hS; intro w hS) | (refine pN_neq_s ?_ ?_ <;> intro hc <;> try (exfalso; first | omega | exact hc rfl | exact hc (by assumption) | exact absurd hc (by assumption))) | refine pIf_t ?_ | refine pN_l hS (by first | rfl | assumption) ?_ | refine pL_l hS (by first | rfl | assumption) ?_ | refine pL_r hS (by rfl) ?_ | (refine pN_s hS (by first | exact Nat.le_of_ble_eq_true rfl | assumption) (by rfl) ?_; clear hS; intro w hS; try simp only [List.set_cons_zero, List.set_cons_succ] at hS) | (refine pDr_go hS ?_; clear hS; intro w hS) | (refine pN_nz hS ?_; clear hS; intro a w hS) | (refine pN_bx hS (by rfl) ?_; clear hS; intro a w hS) | refine ⟨trivial, ?_⟩ | refine ⟨⟨(by first | exact run_l hS (by first | rfl | assumption) | exact run_st hS (by first | rfl | omega) | exact run_ld1 ha hS | exact fun _ => run_l hS (by rfl) | exact fun _ => run_st hS (by first | rfl | omega) | exact fun _ => run_ld1 ha hS | exact fun h => Bool.noConfusion h), trivial⟩, ?_⟩ | refine pN_via (by (intro K; simp (disch := omega) only [go_sem, pN_min, pN_max, w_u32, w_u64, Option.isNone_some, Option.isNone_none]; (try simp only [wrap_u32, wrap_u64]); rfl)) ?_ | fail)
    exact hno h _ hS.to
  obtain ⟨x, hx⟩ : ∃ x, l[i.toNat]? = some x := ⟨l[i.toNat]'(by omega), by simp⟩
  have hxe : l.getD i.toNat 0 = x := by rw [List.getD_eq_getElem?_getD, hx]; rfl
  rw [hxe] at hok hre
  have hxf := hf.get hx
  have hmid := D.bound_mid ho.r0 hxf.1 hxf.2
  have q1 := ho.r0
  have q2 := ho.r1
  have q3 := ho.c0
  have q4 := ho.c1
  have hco := ho.cut hmid.1 hmid.2
  repeat' (first | (refine pc_prob_Set_At (At_in (hS.fd (PSet p)) i h.1 hx ?_); clear hS; intro w hS) | (refine pN_neq_s ?_ ?_ <;> intro hc <;> try (exfalso; first | omega | exact hc rfl | exact hc (by assumption) | exact absurd hc (by assumption))) | refine pIf_f ?_ | refine pN_l hS (by first | rfl | assumption) ?_ | (refine pN_s hS (by first | exact Nat.le_of_ble_eq_true rfl | assumption) (by rfl) ?_; clear hS; intro w hS; try simp only [List.set_cons_zero, List.set_cons_succ] at hS) | (refine pN_nz hS ?_; clear hS; intro a w hS) | (refine pN_bx hS (by rfl) ?_; clear hS; intro a w hS) | refine pN_fn ?_ | refine pN_via (by (intro K; simp (disch := omega) only [go_sem, pN_min, pN_max, w_u32, w_u64, Option.isNone_some, Option.isNone_none]; (try simp only [wrap_u32, wrap_u64]); rfl)) ?_ | fail)
  rename_i x3 _ x4 _ x5 _ x6 _ _ _
  clear hc
  revert a
  intro x7 hS
  have hS : Sat E w (Dec d st :: cel x3 ⟨75, [.pointer (some ⟨d, 0, none⟩)]⟩ :: cel x4 ⟨34, [.pointer (some ⟨p, 0, none⟩)]⟩ :: cel x5 ⟨3, [.int .i64 i]⟩ :: cel x6 ⟨3, [.int .i64 0]⟩ :: cel x7 ⟨27, [.int .i64 0]⟩ :: PSet p l :: M) := hS.to
  obtain ⟨s, hS⟩ := Dec.opn hS
  refine pN_la_at hS [.int .i64 st.k, .int .u32 st.R, .int .u32 st.C] rfl rfl ?_
  refine pDf_fn ?_
  let Z : Pan := ⟨fun ch w => ch = [{ v := refd 1, recovered := false }] ∧ (st.cut (B.bound st.R x)).widen = none ∧ ∃ (bit e0 : Int) (st' : D.S), st'.b = st.b ∧ Sat E w (Dec d st' :: cel x3 ⟨75, [.pointer (some ⟨d, 0, none⟩)]⟩ :: cel x4 ⟨34, [.pointer (some ⟨p, 0, none⟩)]⟩ :: cel x5 ⟨3, [.int .i64 i]⟩ :: cel x6 ⟨3, [.int .i64 bit]⟩ :: cel x7 ⟨27, [.int .i64 e0]⟩ :: PSet p l :: M)⟩
  refine ⟨Z, ?_, ?_⟩
  · clear hS
    rintro ch w ⟨rfl, hnone, bit, e0, st', hb', hS⟩
    refine dE_of call_rcdec_Decoder_Bit_c1 (u2 := .panicking [{ v := refd 1, recovered := true }]) (cap := [.pointer (some ⟨x3, 0, none⟩), .pointer (some ⟨x7, 0, none⟩), .pointer (some ⟨x6, 0, none⟩), .pointer (some ⟨x4, 0, none⟩), .pointer (some ⟨x5, 0, none⟩)]) (args := [.agg #[.int .i64 st.k, .int .u32 st.R, .int .u32 st.C]])
      (Q := fun r w => Sat E w (Dec d st :: cel x3 ⟨75, [.pointer (some ⟨d, 0, none⟩)]⟩ :: cel x4 ⟨34, [.pointer (some ⟨p, 0, none⟩)]⟩ :: cel x5 ⟨3, [.int .i64 i]⟩ :: cel x6 ⟨3, [.int .i64 0]⟩ :: cel x7 ⟨27, [.int .i64 1]⟩ :: PSet p l :: M)) rfl ?_ (rcdec_Decoder_Bit_c1.panics (BitC_ref (by decide) hS fun w hS => ?_))
    · clear hS
      rintro _ w hS
      repeat' (first | refine pL_r hS (by rfl) ?_ | fail)
      exact hre 1 _ h.1 h.2 (by rw [D.S.bit, hnone]) hS.to
    · rw [hb'] at hS
      exact hS
  · refine ⟨fun w => Sat E w (Dec d (st.cut (B.bound st.R x)) :: cel x3 ⟨75, [.pointer (some ⟨d, 0, none⟩)]⟩ :: cel x4 ⟨34, [.pointer (some ⟨p, 0, none⟩)]⟩ :: cel x5 ⟨3, [.int .i64 i]⟩ :: cel x6 ⟨3, [.int .i64 (st.bitAt (B.bound st.R x))]⟩ :: cel x7 ⟨27, [.int .i64 0]⟩ :: PSet p l :: M), ?_, ?_⟩
    · repeat' (first | refine pL_l hS (by first | rfl | assumption) ?_ | (refine pDr_go hS ?_; clear hS; intro w hS) | refine pA_via (by (intro K; simp (disch := omega) only [go_sem, pN_min, pN_max, w_u32, w_u64, Option.isNone_some, Option.isNone_none]; (try simp only [wrap_u32, wrap_u64]); rfl)) ?_ | fail)
      refine pc_prob_Bound (Calls.up (Bound_ok st.R x (by omega) (by omega) ?_))
      have hc0 := B.bound_pos (rng := st.R) (p := x) q1 hxf.1
      have hc1 := B.bound_lt (rng := st.R) (p := x) q1
      have hS := Dec.shut (d := d) (s := s) hS st rfl rfl
      have hv : st.bitAt (B.bound st.R x) = if st.C < B.bound st.R x then 0 else 1 := rfl
      repeat' (first | refine ⟨⟨(by first | exact run_l hS (by first | rfl | assumption) | exact run_st hS (by first | rfl | omega) | exact run_ld1 ha hS | exact fun _ => run_l hS (by rfl) | exact fun _ => run_st hS (by first | rfl | omega) | exact fun _ => run_ld1 ha hS | exact fun h => Bool.noConfusion h), trivial⟩, ?_⟩ | fail)
      refine pc_rcdec_Decoder_upper (Calls.up (upper_ok (hS.fd (Dec d)) (B.bound st.R x) (by omega) (fun _ => trivial) (by omega) q2 q3 q4 fun w hS => ?_))
      by_cases hlt : st.C < B.bound st.R x
      · rw [decide_eq_false (by omega)]
        rw [if_pos hlt] at hv
        rw [hv]
        repeat' (first | refine pIf_f ?_ | refine ⟨trivial, ?_⟩ | fail)
        exact hS.to
      · rw [decide_eq_true hlt]
        rw [if_neg hlt] at hv
        rw [hv]
        repeat' (first | refine pIf_t ?_ | (refine pN_s hS (by first | exact Nat.le_of_ble_eq_true rfl | assumption) (by rfl) ?_; clear hS; intro w hS; try simp only [List.set_cons_zero, List.set_cons_succ] at hS) | refine ⟨trivial, ?_⟩ | fail)
        exact hS.to
    · clear hS
      intro _ w hS
      repeat' (first | refine pN_l hS (by first | rfl | assumption) ?_ | fail)
      refine pc_rcdec_Decoder_widen (Dwiden_ok (hS.fd (Dec d)) hco.k (by rw [hco.b]; exact hb) (by have := hco.r0; omega) hco.c0 hco.c1 (fun t w ht hS => ?_) fun w hnone hS => ?_)
      · repeat' (first | refine pN_l hS (by first | rfl | assumption) ?_ | (refine pN_s hS (by first | exact Nat.le_of_ble_eq_true rfl | assumption) (by rfl) ?_; clear hS; intro w hS; try simp only [List.set_cons_zero, List.set_cons_succ] at hS) | fail)
        have hS : Sat E _ (Dec d t :: PSet p l :: cel x3 ⟨75, [.pointer (some ⟨d, 0, none⟩)]⟩ :: cel x4 ⟨34, [.pointer (some ⟨p, 0, none⟩)]⟩ :: cel x5 ⟨3, [.int .i64 i]⟩ :: cel x6 ⟨3, [.int .i64 (st.bitAt (B.bound st.R x))]⟩ :: cel x7 ⟨27, [.int .i64 0]⟩ :: M) := hS.to
        refine dE_of call_rcdec_Decoder_Bit_c1 (u2 := .returning) (cap := [.pointer (some ⟨x3, 0, none⟩), .pointer (some ⟨x7, 0, none⟩), .pointer (some ⟨x6, 0, none⟩), .pointer (some ⟨x4, 0, none⟩), .pointer (some ⟨x5, 0, none⟩)]) (args := [.agg #[.int .i64 st.k, .int .u32 st.R, .int .u32 st.C]])
          (Q := fun r w => Sat E w (Dec d t :: PSet p (l.set i.toNat (B.next x (st.bitAt (B.bound st.R x)))) :: cel x3 ⟨75, [.pointer (some ⟨d, 0, none⟩)]⟩ :: cel x4 ⟨34, [.pointer (some ⟨p, 0, none⟩)]⟩ :: cel x5 ⟨3, [.int .i64 i]⟩ :: cel x6 ⟨3, [.int .i64 (st.bitAt (B.bound st.R x))]⟩ :: cel x7 ⟨27, [.int .i64 0]⟩ :: M)) rfl ?_ (rcdec_Decoder_Bit_c1.idles (BitC_idle hS h.1 h.2 fun w hS => ?_))
        · clear hS
          rintro _ w hS
          repeat' (first | refine pL_r hS (by rfl) ?_ | fail)
          exact hok t _ _ h.1 h.2 (by rw [D.S.bit, ht]) hS.to
        · rw [hxe] at hS
          exact hS
      · exact ⟨rfl, hnone, st.bitAt (B.bound st.R x), 0, st.cut (B.bound st.R x), hco.b, hS⟩
end

end Go.Proofs.Ytoejaggkedlfmaa
