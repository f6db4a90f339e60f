/-
  Package pithref07: the document's encoder: the low end as its digits.
-/
import Derived.Test.YtoejaggkedlfmaaLfPithref07
import Derived.Test.YtoejaggkedlfmaaRef6
import Derived.Test.YtoejaggkedlfmaaRPure
namespace Go.Proofs.Ytoejaggkedlfmaa
open Go
set_option linter.unusedSimpArgs false
set_option linter.unnecessarySimpa false
set_option linter.unusedSectionVars false
set_option linter.unusedVariables false
attribute [local irreducible] oMv oV oU oCall oCallV oBi oBin oUn oLoad oStore oNil oFld oField oIdx oIndex oPick oAlloc oBox oBuild oBs oConv oMk oSl oExt oFn oIface oMap oLook oMapUp oRange oNext oAssert oPanic oRes pN pA pL pDr pIf gA pGd

namespace R
theorem digits_cons : ∀ (m : Nat) (n : Int), digits n (m + 1) = byteOf (n / 256 ^ m) :: digits n m
  | 0, n => by simp [digits]
  | m + 1, n => by
    rw [digits, digits_cons m, digits, Int.pow_succ, Int.mul_comm, ← Int.ediv_ediv_of_nonneg (by omega : (0 : Int) ≤ 256)]
    rfl
/-- The digits of N, of which the last m are those of X already. -/
def half (N X : Int) (k m : Nat) : List UInt8 := digits (N / 256 ^ m) (k - m) ++ digits X m
theorem half_len (N X : Int) {k m : Nat} (h : m ≤ k) : (half N X k m).length = k := by
  rw [half, List.length_append, digits_length, digits_length]; omega
theorem half_zero (N X : Int) (k : Nat) : half N X k 0 = digits N k := by
  rw [half, Int.pow_zero, Int.ediv_one, digits, List.append_nil, Nat.sub_zero]
theorem half_all (N X : Int) (k : Nat) : half N X k k = digits X k := by
  rw [half, Nat.sub_self, digits, List.nil_append]
theorem half_split (N X : Int) {k m : Nat} (h : m < k) : half N X k m = digits (N / 256 ^ (m + 1)) (k - (m + 1)) ++ byteOf (N / 256 ^ m) :: digits X m := by
  rw [half, show k - m = (k - (m + 1)) + 1 from by omega, digits, Int.pow_succ, ← Int.ediv_ediv_of_nonneg (Int.le_of_lt (Int.pow_pos (by omega))), List.append_assoc]
  rfl
theorem half_get (N X : Int) {k m : Nat} (h : m < k) : (half N X k m)[k - 1 - m]? = some (byteOf (N / 256 ^ m)) := by
  rw [half_split N X h, List.getElem?_append_right (by rw [digits_length]; omega), digits_length, show k - 1 - m - (k - (m + 1)) = 0 from by omega]
  rfl
theorem half_set (N X : Int) {k m : Nat} (h : m < k) : (half N X k m).set (k - 1 - m) (byteOf (X / 256 ^ m)) = half N X k (m + 1) := by
  rw [half_split N X h, List.set_append_right _ _ (by rw [digits_length]; omega), digits_length, show k - 1 - m - (k - (m + 1)) = 0 from by omega, half, digits_cons]
  rfl
end R

/-- The document's encoder in block b. -/
def REnc (b : Nat) (st : R.S) : HA := fun h => ∃ s : Sl, Sats [cel b ⟨139, [.slice s.a (st.k + 5 : Nat) s.c, .int .u32 st.R, .int .i64 st.k]⟩, rows cd_uint8 s st.bytes] h

section
variable {E w : World} {M : List HA} {Q : Value → World → Prop} {b : Nat} {st : R.S}

theorem bytes_len (st : R.S) : st.bytes.length = st.k + 5 := R.digits_length _ _
theorem REnc.opn (hS : Sat E w (REnc b st :: M)) : ∃ s : Sl, Sat E w (cel b ⟨139, [.slice s.a st.bytes.length s.c, .int .u32 st.R, .int .i64 st.k]⟩ :: rows cd_uint8 s st.bytes :: M) := by
  obtain ⟨s, hS⟩ := hS.ex
  refine ⟨s, ?_⟩
  rw [bytes_len]
  exact hS.open_ (M := [_, _]) fun _ h => h
theorem REnc.shut {s : Sl} {L N : List HA} {o : Ob} {l : List UInt8} (hS : Sat E w L) [h1 : Fnd (cel b) L o N] [h2 : Fnd (rows cd_uint8 s) N l M] (ho : o = ⟨139, [.slice s.a l.length s.c, .int .u32 st.R, .int .i64 st.k]⟩) (hl : l = st.bytes) : Sat E w (REnc b st :: M) := by
  subst hl
  subst ho
  rw [bytes_len] at h1
  exact Sat.shut (M := [_, _]) (hS.fd2 (cel b) (rows cd_uint8 s)) fun _ h => ⟨s, h⟩

theorem RNewE_ok (hS : Sat E w M) (hQ : ∀ b w, Sat E w (REnc b R.S.new :: M) → Q (.pointer (some ⟨b, 0, none⟩)) w) : Calls Try.prog 30 #[] w (retP Q) := by
  refine pithref07_New.calls ?_
  unfold pithref07_New.F
  repeat' (first | (refine pN_bx hS (by rfl) ?_; clear hS; intro a w hS) | (refine pN_mk hS _ (by first | rfl | (exact (Int.toNat_of_nonneg (by omega)).symm)) (by first | omega | (simp only [go_sem]; omega)) ?_; clear hS; intro s w hS) | refine pN_via (by (intro K; simp (disch := omega) only [go_sem, pN_min, pN_max, w_u32, w_u64, Option.isNone_some, Option.isNone_none]; (try simp only [wrap_u32, wrap_u64]); rfl)) ?_ | fail)
  exact hQ _ _ (REnc.shut (b := a) (s := s) hS rfl rfl)

theorem adds_ok (hS : Sat E w (REnc b st :: M)) (hk : st.k + 10 ≤ 140737488355328) (v : Int) (v0 : 0 ≤ v) (v1 : v < 4294967296) (hQ : ∀ w, Sat E w (REnc b ⟨st.N + v, st.R, st.k⟩ :: M) → Q (.tuple #[]) w) : Calls Try.prog 83 #[.pointer (some ⟨b, 0, none⟩), .int .u32 v] w (retP Q) := by
  refine pithref07_Encoder_adds.calls ?_
  unfold pithref07_Encoder_adds.F
  obtain ⟨s, hS⟩ := REnc.opn hS
  have hb := bytes_len st
  repeat' (first | refine pN_l hS (by first | rfl | assumption) ?_ | refine pN_via (by (intro K; simp (disch := omega) only [go_sem, pN_min, pN_max, w_u32, w_u64, Option.isNone_some, Option.isNone_none]; (try simp only [wrap_u32, wrap_u64]); rfl)) ?_ | fail)
  refine ⟨fun c i w => ∃ (m : Nat) (x : Int), c = .int .u64 x ∧ i = .int .i64 ((st.bytes.length : Int) - 1 - m) ∧ m ≤ st.k + 5 ∧ 0 ≤ x ∧ x < 4294967296 ∧ (st.N + v) / 256 ^ m = st.N / 256 ^ m + x ∧
      Sat E w (cel b ⟨139, [.slice s.a st.bytes.length s.c, .int .u32 st.R, .int .i64 st.k]⟩ :: rows cd_uint8 s (R.half st.N (st.N + v) (st.k + 5) m) :: M), fun _ i _ => (RowKit.intOf i + 1).toNat,
    ⟨0, v, rfl, congrArg (Value.int .i64) (by omega), Nat.zero_le _, v0, v1, by simp, by rw [R.half_zero]; exact hS⟩, ?_⟩
  clear hS
  rintro _ _ _ w ⟨m, x, rfl, rfl, hm, x0, x1, hx, hS⟩
  have hl := R.half_len st.N (st.N + v) hm
  by_cases hlt : m < st.k + 5
  · have hg := R.half_get st.N (st.N + v) hlt
    have hs := R.half_set st.N (st.N + v) hlt
    have e1 : ((st.bytes.length : Int) - 1 - m).toNat = st.k + 5 - 1 - m := by omega
    rw [← e1] at hg hs
    have e3 : (st.N + v) / 256 ^ (m + 1) = st.N / 256 ^ m / 256 + (x + st.N / 256 ^ m % 256) / 256 ∧ st.N / 256 ^ (m + 1) = st.N / 256 ^ m / 256 := by
      have p : (0 : Int) ≤ 256 ^ m := Int.le_of_lt (Int.pow_pos (by omega))
      rw [Int.pow_succ, ← Int.ediv_ediv_of_nonneg p, ← Int.ediv_ediv_of_nonneg p, hx]
      omega
    have e4 : (((byteOf (st.N / 256 ^ m)).toNat : Nat) : Int) = st.N / 256 ^ m % 256 := byteOf_toNat _
    have e5 : byteOf ((x + ((byteOf (st.N / 256 ^ m)).toNat : Nat)) % 256) = byteOf ((st.N + v) / 256 ^ m) := by
      apply UInt8.toNat_inj.1
      have a1 := byteOf_toNat ((x + ((byteOf (st.N / 256 ^ m)).toNat : Nat)) % 256)
      have a2 := byteOf_toNat ((st.N + v) / 256 ^ m)
      omega
    generalize R.half st.N (st.N + v) (st.k + 5) m = l at hl hg hs hS
    repeat' (first | (refine pN_geq_s ?_ ?_ <;> intro hc <;> try (exfalso; omega)) | refine pIf_t ?_ | refine pN_tob ?_ | refine pN_ofb ?_ | refine pN_l hS (by first | rfl | assumption) ?_ | refine pN_ld1 ha hS ?_ | refine pN_ixk hS _ (by first | rfl | (exact (Int.toNat_of_nonneg (by omega)).symm)) (by first | rfl | omega | simpa only [go_sem] using True.intro | (simp only [go_sem]; omega)) (by assumption) fun a ha hel => ?_ | (refine pN_sr hel hS (by rfl) (by rfl) (by first | omega | (simp only [go_sem]; omega)) ?_; clear hS; intro w hS) | refine pN_via (by (intro K; simp (disch := omega) only [go_sem, pN_min, pN_max, w_u32, w_u64, Option.isNone_some, Option.isNone_none]; (try simp only [wrap_u32, wrap_u64]); rfl)) ?_ | fail)
    rw [e5, hs] at hS
    rw [e4]
    refine ⟨⟨m + 1, (x + st.N / 256 ^ m % 256) / 256, rfl, congrArg (Value.int .i64) (by omega), by omega, by omega, by omega, ?_, hS.to⟩, by simp [RowKit.intOf] <;> omega⟩
    rw [e3.1, e3.2]
  · obtain rfl : m = st.k + 5 := by omega
    rw [R.half_all] at hS
    repeat' (first | (refine pN_geq_s ?_ ?_ <;> intro hc <;> try (exfalso; omega)) | refine pIf_f ?_ | fail)
    exact hQ _ (REnc.shut (b := b) (s := s) (st := ⟨st.N + v, st.R, st.k⟩) hS (by rw [hb, bytes_len]) rfl)

theorem widens_ok (hS : Sat E w (REnc b st :: M)) (r0 : 0 < st.R) (r1 : st.R < 4294967296) (hk : st.k + 10 ≤ 140737488355328) (hQ : ∀ w, Sat E w (REnc b st.widen :: M) → Q (.tuple #[]) w) : Calls Try.prog 84 #[.pointer (some ⟨b, 0, none⟩)] w (retP Q) := by
  refine pithref07_Encoder_widens.calls ?_
  unfold pithref07_Encoder_widens.F
  have hk3 := (R.widen_k _ st rfl r0).1
  refine ⟨fun w => ∃ t : R.S, t.widen = st.widen ∧ 0 < t.R ∧ t.R < 4294967296 ∧ Sat E w (REnc b t :: M), fun w => 4294967296 - wInt b 1 w, ⟨st, rfl, r0, r1, hS⟩, ?_⟩
  clear hS
  rintro _ w ⟨t, ht, t0, t1, hS⟩
  have hm := R.widen_mono t
  rw [ht] at hm
  obtain ⟨s, hS⟩ := REnc.opn hS
  have hb := bytes_len t
  have hw := wInt_eq (b := b) (i := 1) hS rfl
  repeat' (first | (refine pN_lss_s ?_ ?_ <;> intro hc <;> try (exfalso; omega)) | refine pIf_t ?_ | refine pIf_f ?_ | refine pN_l hS (by first | rfl | assumption) ?_ | (refine pN_s hS (by first | exact Nat.le_of_ble_eq_true rfl | assumption) (by rfl) ?_; clear hS; intro w hS; try simp only [List.set_cons_zero, List.set_cons_succ] at hS) | (refine pN_b1 hS (by rfl) (by decide) ?_; clear hS; intro s w hS) | (refine pN_app hS (by first | rfl | omega | simpa only [go_sem] using True.intro | (simp only [go_sem]; omega)) (by first | rfl | omega | simpa only [go_sem] using True.intro | (simp only [go_sem]; omega)) (by first | omega | (simp only [go_sem]; omega)) ?_; clear hS; intro s w hS) | refine pN_via (by (intro K; simp (disch := omega) only [go_sem, pN_min, pN_max, w_u32, w_u64, Option.isNone_some, Option.isNone_none]; (try simp only [wrap_u32, wrap_u64]); rfl)) ?_ | fail)
  · have e := R.digits_mul t.N (t.k + 5)
    have hw2 : wInt b 1 _ = _ := wInt_eq (b := b) (i := 1) hS rfl
    have hS := REnc.shut (b := b) (s := s) (st := ⟨t.N * 256, t.R * 256, t.k + 1⟩) hS (by simp <;> rfl) (by rw [R.S.bytes, R.S.bytes]; exact e.symm)
    refine ⟨⟨⟨t.N * 256, t.R * 256, t.k + 1⟩, ?_, ?_, ?_, hS.to⟩, ?_⟩
    · rw [← ht]; exact (R.S.widen_go t0 (by omega)).symm
    · show 0 < t.R * 256; omega
    · show t.R * 256 < 4294967296; omega
    · show 4294967296 - wInt b 1 _ < 4294967296 - wInt b 1 _
      rw [hw, hw2]; omega
  · rw [R.S.widen_no (by omega)] at ht
    subst ht
    exact hQ _ (REnc.shut (b := b) (s := s) hS rfl rfl)

theorem Rcut_ok (hS : Sat E w (REnc b st :: M)) (r1 : st.R < 4294967296) (hk : st.k + 10 ≤ 140737488355328) (c bit : Int) (c0 : 0 < c) (c1 : c < st.R) (hQ : ∀ w, Sat E w (REnc b (st.cut c bit) :: M) → Q (.tuple #[]) w) :
    Calls Try.prog 80 #[.pointer (some ⟨b, 0, none⟩), .int .u32 c, .int .i64 bit] w (retP Q) := by
  refine pithref07_Encoder_cut.calls ?_
  unfold pithref07_Encoder_cut.F
  refine ⟨fun w => Sat E w (REnc b (if bit = 0 then ⟨st.N, c, st.k⟩ else ⟨st.N + c, st.R - c, st.k⟩ : R.S) :: M), ?_, ?_⟩
  · by_cases h : bit = 0
    · rw [if_pos h]
      obtain ⟨s, hS⟩ := REnc.opn hS
      repeat' (first | (refine pN_eql_s ?_ ?_ <;> intro hc <;> try (exfalso; first | omega | exact hc rfl | exact hc (by assumption) | exact absurd hc (by assumption))) | refine pIf_t ?_ | (refine pN_s hS (by first | exact Nat.le_of_ble_eq_true rfl | assumption) (by rfl) ?_; clear hS; intro w hS; try simp only [List.set_cons_zero, List.set_cons_succ] at hS) | refine pN_via (by (intro K; simp (disch := omega) only [go_sem, pN_min, pN_max, w_u32, w_u64, Option.isNone_some, Option.isNone_none]; (try simp only [wrap_u32, wrap_u64]); rfl)) ?_ | fail)
      exact REnc.shut (b := b) (s := s) hS rfl rfl
    · rw [if_neg h]
      repeat' (first | (refine pc_pithref07_Encoder_adds (adds_ok hS (by omega) _ (by omega) (by omega) ?_); clear hS; intro w hS; obtain ⟨s, hS⟩ := REnc.opn hS) | (refine pN_eql_s ?_ ?_ <;> intro hc <;> try (exfalso; first | omega | exact hc rfl | exact hc (by assumption) | exact absurd hc (by assumption))) | refine pIf_f ?_ | refine pN_l hS (by first | rfl | assumption) ?_ | (refine pN_s hS (by first | exact Nat.le_of_ble_eq_true rfl | assumption) (by rfl) ?_; clear hS; intro w hS; try simp only [List.set_cons_zero, List.set_cons_succ] at hS) | refine pN_via (by (intro K; simp (disch := omega) only [go_sem, pN_min, pN_max, w_u32, w_u64, Option.isNone_some, Option.isNone_none]; (try simp only [wrap_u32, wrap_u64]); rfl)) ?_ | fail)
      exact REnc.shut (b := b) (s := s) hS rfl rfl
  · clear hS
    intro _ w hS
    refine pc_pithref07_Encoder_widens (widens_ok hS ?_ ?_ ?_ fun w hS => hQ w hS)
    · split
      · exact c0
      · show 0 < st.R - c; omega
    · split
      · show c < 4294967296; omega
      · show st.R - c < 4294967296; omega
    · split
      · exact hk
      · exact hk

theorem RBit_ok {p : Nat} {l : List Int} (hS : Sat E w (REnc b st :: RSet p l :: M)) (ho : R.Ok st) (hf : B.Fine l) (hk : st.k + 10 ≤ 140737488355328) (i bit : Int)
    (hQ : ∀ w, Sat E w (REnc b (if 0 ≤ i ∧ i < l.length then st.cut (B.bound st.R (l.getD i.toNat 0)) bit else st) :: RSet p (if 0 ≤ i ∧ i < l.length then l.set i.toNat (B.next (l.getD i.toNat 0) bit) else l) :: M) → Q (.int .i64 (if 0 ≤ i ∧ i < l.length then 0 else 7)) w) :
    Calls Try.prog 31 #[.pointer (some ⟨b, 0, none⟩), .pointer (some ⟨p, 0, none⟩), .int .i64 i, .int .i64 bit] w (retP Q) := by
  refine pithref07_Encoder_Bit.calls ?_
  unfold pithref07_Encoder_Bit.F
  refine pc_pithref06_Set_At (RAt_ok (hS.fd (RSet p)) i fun w hS => ?_)
  have r0 := ho.r0
  have r1 := ho.r1
  by_cases h : 0 ≤ i ∧ i < l.length
  · simp only [if_pos h] at hQ ⊢
    obtain ⟨x, hx⟩ : ∃ x, l[i.toNat]? = some x := ⟨l[i.toNat]'(by omega), by simp⟩
    have e : l.getD i.toNat 0 = x := by rw [List.getD_eq_getElem?_getD, hx]; rfl
    have hxf := hf.get hx
    rw [e] at hQ ⊢
    obtain ⟨s, hS⟩ := REnc.opn (hS.fd (REnc b))
    repeat' (first | (refine pN_neq_s ?_ ?_ <;> intro hc <;> try (exfalso; first | omega | exact hc rfl | exact hc (by assumption) | exact absurd hc (by assumption))) | refine pIf_f ?_ | refine pN_l hS (by first | rfl | assumption) ?_ | refine pN_via (by (intro K; simp (disch := omega) only [go_sem, pN_min, pN_max, w_u32, w_u64, Option.isNone_some, Option.isNone_none]; (try simp only [wrap_u32, wrap_u64]); rfl)) ?_ | fail)
    refine pc_pithref06_Bound (RBound_ok _ _ (by omega) (by omega) ?_)
    have hS := REnc.shut (b := b) (s := s) hS rfl rfl
    refine pc_pithref07_Encoder_cut (Rcut_ok hS (by omega) (by omega) _ bit (B.bound_pos r0 hxf.1) (B.bound_lt r0) fun w hS => ?_)
    refine pc_pithref06_Set_Turn (RTurn_ok (hS.fd (RSet p)) i bit fun w hS => ?_)
    simp only [if_pos h, e] at hS
    exact hQ _ hS.to
  · simp only [if_neg h] at hQ ⊢
    repeat' (first | (refine pN_neq_s ?_ ?_ <;> intro hc <;> try (exfalso; first | omega | exact hc rfl | exact hc (by assumption) | exact absurd hc (by assumption))) | refine pIf_t ?_ | refine pN_via (by (intro K; simp (disch := omega) only [go_sem, pN_min, pN_max, w_u32, w_u64, Option.isNone_some, Option.isNone_none]; (try simp only [wrap_u32, wrap_u64]); rfl)) ?_ | fail)
    exact hQ _ hS.to

theorem RBit_in {p : Nat} {l : List Int} (hS : Sat E w (REnc b st :: RSet p l :: M)) (ho : R.Ok st) (hf : B.Fine l) (hk : st.k + 10 ≤ 140737488355328) (i bit : Int) {x : Int} (h0 : 0 ≤ i) (hx : l[i.toNat]? = some x)
    (hQ : ∀ w, Sat E w (REnc b (st.cut (B.bound st.R x) bit) :: RSet p (l.set i.toNat (B.next x bit)) :: M) → Q (.int .i64 0) w) :
    Calls Try.prog 31 #[.pointer (some ⟨b, 0, none⟩), .pointer (some ⟨p, 0, none⟩), .int .i64 i, .int .i64 bit] w (retP Q) := by
  have hlt : i.toNat < l.length := (List.getElem?_eq_some_iff.1 hx).1
  refine RBit_ok hS ho hf hk i bit fun w hS => ?_
  have e : l.getD i.toNat 0 = x := by rw [List.getD_eq_getElem?_getD, hx]; rfl
  rw [if_pos (by omega), if_pos (by omega), e] at hS
  rw [if_pos (by omega)]
  exact hQ w hS

theorem RDirect_ok (hS : Sat E w (REnc b st :: M)) (ho : R.Ok st) (hk : st.k + 50 ≤ 140737488355328) (v n : Int) (v0 : 0 ≤ v) (v1 : v < 4294967296)
    (hQ : ∀ w, Sat E w (REnc b (if 0 ≤ n ∧ n ≤ 32 then st.direct v n.toNat else st) :: M) → Q (.int .i64 (if 0 ≤ n ∧ n ≤ 32 then 0 else 7)) w) :
    Calls Try.prog 32 #[.pointer (some ⟨b, 0, none⟩), .int .u32 v, .int .i64 n] w (retP Q) := by
  refine pithref07_Encoder_Direct.calls ?_
  unfold pithref07_Encoder_Direct.F
  by_cases h : 0 ≤ n ∧ n ≤ 32
  · simp only [if_pos h] at hQ ⊢
    repeat' (first | ((first | refine pN_lss_s ?_ ?_ | refine pN_gtr_s ?_ ?_) <;> intro hc <;> try (exfalso; omega)) | refine pIf_f ?_ | refine pGd_go (by rfl) ?_ | refine pN_via (by (intro K; simp (disch := omega) only [go_sem, pN_min, pN_max, w_u32, w_u64, Option.isNone_some, Option.isNone_none]; (try simp only [wrap_u32, wrap_u64]); rfl)) ?_ | fail)
    obtain ⟨m, rfl⟩ : ∃ m : Nat, n = m := ⟨n.toNat, by omega⟩
    rw [Int.toNat_natCast] at hQ
    refine ⟨fun i w => ∃ (j : Nat) (t : R.S), i = .int .i64 ((j : Int) - 1) ∧ j ≤ m ∧ R.Ok t ∧ t.k + j ≤ st.k + m ∧ t.direct v j = st.direct v m ∧ Sat E w (REnc b t :: M), fun i _ => (RowKit.intOf i + 1).toNat, ⟨m, st, rfl, by omega, ho, by omega, rfl, hS.to⟩, ?_⟩
    clear hS
    rintro _ _ w ⟨j, t, rfl, hj, hot, htk, htd, hS⟩
    have r0 := hot.r0
    have r1 := hot.r1
    by_cases hj0 : j = 0
    · subst hj0
      repeat' (first | (refine pN_geq_s ?_ ?_ <;> intro hc <;> try (exfalso; omega)) | refine pIf_f ?_ | fail)
      rw [← htd] at hQ
      exact hQ _ hS
    · obtain ⟨j, rfl⟩ : ∃ i, j = i + 1 := ⟨j - 1, by omega⟩
      rw [R.S.direct] at htd
      have hok := hot.one (v / 2 ^ j % 2)
      have hok1 := R.one_k hot (v / 2 ^ j % 2)
      rw [show ((j + 1 : Nat) : Int) - 1 = j from by omega]
      repeat' (first | (refine pN_geq_s ?_ ?_ <;> intro hc <;> try (exfalso; omega)) | refine pIf_t ?_ | fail)
      refine ⟨fun w => Sat E w (REnc b (t.one (v / 2 ^ j % 2)) :: M), ?_, ?_⟩
      · obtain ⟨s, hS⟩ := REnc.opn hS
        repeat' (first | refine pN_l hS (by first | rfl | assumption) ?_ | (refine pN_s hS (by first | exact Nat.le_of_ble_eq_true rfl | assumption) (by rfl) ?_; clear hS; intro w hS; try simp only [List.set_cons_zero, List.set_cons_succ] at hS) | refine pN_via (by (intro K; simp (disch := omega) only [go_sem, pN_min, pN_max, w_u32, w_u64, Option.isNone_some, Option.isNone_none]; (try simp only [wrap_u32, wrap_u64]); rfl)) ?_ | fail)
        refine ⟨fun w => Sat E w (REnc b (if v / 2 ^ j % 2 = 1 then ⟨t.N + t.R / 2, t.R / 2, t.k⟩ else ⟨t.N, t.R / 2, t.k⟩ : R.S) :: M), ?_, ?_⟩
        · have hv0 : 0 ≤ v / 2 ^ j := Int.ediv_nonneg v0 (Int.le_of_lt (Int.pow_pos (by omega)))
          refine pN_shr_k j rfl (by show _ ≤ 32; omega) ?_
          repeat' (first | (refine pN_eql_s ?_ ?_ <;> intro hc <;> try (exfalso; first | omega | exact hc rfl | exact hc (by assumption) | exact absurd hc (by assumption))) | refine pIf_t ?_ | refine pIf_f ?_ | refine pN_l hS (by first | rfl | assumption) ?_ | refine pN_via (by (intro K; simp (disch := omega) only [go_sem, pN_min, pN_max, w_u32, w_u64, Option.isNone_some, Option.isNone_none]; (try simp only [wrap_u32, wrap_u64]); rfl)) ?_ | fail)
          · rw [if_pos (by omega)]
            have hS := REnc.shut (b := b) (s := s) (st := ⟨t.N, t.R / 2, t.k⟩) hS rfl rfl
            refine pc_pithref07_Encoder_adds (adds_ok hS (by show t.k + 10 ≤ _; omega) _ (by omega) (by omega) fun w hS => hS)
          · rw [if_neg (by omega)]
            exact REnc.shut (b := b) (s := s) hS rfl rfl
        · clear hS
          intro _ w hS
          refine pc_pithref07_Encoder_widens (widens_ok hS ?_ ?_ ?_ fun w hS => hS)
          · split <;> (show 0 < t.R / 2; omega)
          · split <;> (show t.R / 2 < 4294967296; omega)
          · split <;> (show t.k + 10 ≤ _; omega)
      · clear hS
        intro _ w hS
        repeat' (first | refine pN_via (by (intro K; simp (disch := omega) only [go_sem, pN_min, pN_max, w_u32, w_u64, Option.isNone_some, Option.isNone_none]; (try simp only [wrap_u32, wrap_u64]); rfl)) ?_ | fail)
        exact ⟨⟨j, _, rfl, by omega, hok, by omega, htd, hS⟩, by simp [RowKit.intOf] <;> omega⟩
  · simp only [if_neg h] at hQ ⊢
    repeat' (first | ((first | refine pN_lss_s ?_ ?_ | refine pN_gtr_s ?_ ?_) <;> intro hc <;> try (exfalso; omega)) | refine pIf_t ?_ | refine pGd_go (by rfl) ?_ | refine pGd_no (by rfl) ?_ | refine pN_via (by (intro K; simp (disch := omega) only [go_sem, pN_min, pN_max, w_u32, w_u64, Option.isNone_some, Option.isNone_none]; (try simp only [wrap_u32, wrap_u64]); rfl)) ?_ | fail)
    all_goals exact hQ _ hS.to

theorem RSize_ok (hS : Sat E w (REnc b st :: M)) (hk : st.k ≤ 140737488355328) (hQ : ∀ w, Sat E w (REnc b st :: M) → Q (.int .i64 (st.k + 5 : Nat)) w) :
    Calls Try.prog 33 #[.pointer (some ⟨b, 0, none⟩)] w (retP Q) := by
  refine pithref07_Encoder_Size.calls ?_
  unfold pithref07_Encoder_Size.F
  obtain ⟨s, hS⟩ := REnc.opn hS
  repeat' (first | refine pN_l hS (by first | rfl | assumption) ?_ | refine pN_via (by (intro K; simp (disch := omega) only [go_sem, pN_min, pN_max, w_u32, w_u64, Option.isNone_some, Option.isNone_none]; (try simp only [wrap_u32, wrap_u64]); rfl)) ?_ | fail)
  exact hQ _ (REnc.shut (b := b) (s := s) hS rfl rfl)

theorem RBytes_ok (hS : Sat E w (REnc b st :: M)) (hk : st.k + 5 ≤ 140737488355328) (hQ : ∀ s w, Sat E w (rows cd_uint8 s st.bytes :: REnc b st :: M) → Q (.slice s.a st.bytes.length s.c) w) :
    Calls Try.prog 34 #[.pointer (some ⟨b, 0, none⟩)] w (retP Q) := by
  refine pithref07_Encoder_Bytes.calls ?_
  unfold pithref07_Encoder_Bytes.F
  obtain ⟨s0, hS⟩ := REnc.opn hS
  have hb := bytes_len st
  repeat' (first | refine pN_l hS (by first | rfl | assumption) ?_ | (refine pN_app0 hS (by first | rfl | omega | simpa only [go_sem] using True.intro | (simp only [go_sem]; omega)) (by first | omega | (simp only [go_sem]; omega)) ?_; clear hS; intro s w hS) | refine pN_via (by (intro K; simp (disch := omega) only [go_sem, pN_min, pN_max, w_u32, w_u64, Option.isNone_some, Option.isNone_none]; (try simp only [wrap_u32, wrap_u64]); rfl)) ?_ | fail)
  exact hQ s _ (REnc.shut (b := b) (s := s0) hS rfl rfl).to
end

end Go.Proofs.Ytoejaggkedlfmaa
