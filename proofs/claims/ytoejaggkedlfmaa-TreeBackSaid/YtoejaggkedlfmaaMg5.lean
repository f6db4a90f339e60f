/-
  Texts of one proof, one behind the other: TPure, Tree, LfPithref09, LfPithref07, LfPithref06, Ref6, Ref7, Ref9, TreeRows, TreeLaw, TreeCodes.
-/
import Derived.Test.YtoejaggkedlfmaaRows
import Derived.Test.YtoejaggkedlfmaaMg4
namespace Go.Proofs.Ytoejaggkedlfmaa
open Go
set_option linter.unusedSimpArgs false
set_option linter.unnecessarySimpa false
set_option linter.unusedSectionVars false
set_option linter.unusedVariables false
namespace R
theorem two_le {m n : Nat} (h : m ≤ n) : (2 : Int) ^ m ≤ 2 ^ n := by
  have := Nat.pow_le_pow_right (n := 2) (by omega) h
  have e : ∀ k : Nat, (2 : Int) ^ k = ((2 ^ k : Nat) : Int) := fun k => by norm_cast
  rw [e, e]; omega
/-- An encoder's numbers and its row, of any length. -/
structure TS where
  s : S
  l : List Int
/-- The k-th bit of a number of n bits. -/
def bitAt (back : Bool) (n : Nat) (v : Int) (k : Nat) : Int := v / 2 ^ (if back then k else n - 1 - k) % 2
/-- The node before the k-th bit. -/
def node (bs : Nat → Int) : Nat → Int
  | 0 => 1
  | k + 1 => 2 * node bs k + bs k
def TS.bit (a : TS) (i bit : Int) : TS := ⟨a.s.cut (B.bound a.s.R (a.l.getD i.toNat 0)) bit, a.l.set i.toNat (B.next (a.l.getD i.toNat 0) bit)⟩
def TS.put (a : TS) (at_ : Int) (bs : Nat → Int) : Nat → TS
  | 0 => a
  | k + 1 => (TS.put a at_ bs k).bit (at_ + node bs k) (bs k)
def costs (l : List Int) (at_ : Int) (bs : Nat → Int) : Nat → Int
  | 0 => 0
  | k + 1 => costs l at_ bs k + B.cost (l.getD (at_ + node bs k).toNat 0) (bs k)
/-- Is there such a tree in a row of so many? -/
def There (len : Nat) (at_ n : Int) : Prop := 0 ≤ n ∧ n ≤ 16 ∧ 0 ≤ at_ ∧ at_ ≤ len ∧ 2 ^ n.toNat ≤ len - at_
def Holds (v n : Int) : Prop := 0 ≤ v ∧ v < 2 ^ n.toNat
instance (len : Nat) (at_ n : Int) : Decidable (There len at_ n) := by unfold There; infer_instance
instance (v n : Int) : Decidable (Holds v n) := by unfold Holds; infer_instance

theorem bitAt_01 (back : Bool) (n : Nat) (v : Int) (k : Nat) : 0 ≤ bitAt back n v k ∧ bitAt back n v k ≤ 1 := by
  unfold bitAt; omega
theorem node_lo {bs : Nat → Int} (hb : ∀ k, 0 ≤ bs k ∧ bs k ≤ 1) : ∀ k : Nat, (2 : Int) ^ k ≤ node bs k ∧ node bs k < 2 ^ (k + 1)
  | 0 => by simp [node]
  | k + 1 => by
    have ⟨h1, h2⟩ := node_lo hb k
    have := hb k
    simp only [Int.pow_succ, node] at h2 ⊢
    generalize (2 : Int) ^ k = W at *
    omega
theorem costing_small : ∀ i : Int, 0 ≤ i → i ≤ 127 → 0 ≤ B.costing i ∧ B.costing i ≤ 161 := by
  have h : ∀ j : Fin 128, 0 ≤ B.costing (j.val : Int) ∧ B.costing (j.val : Int) ≤ 161 := by decide +kernel
  intro i h0 h1
  have := h ⟨i.toNat, by omega⟩
  simp only [Int.toNat_of_nonneg h0] at this
  exact this
theorem _root_.Go.Proofs.Ytoejaggkedlfmaa.B.cost_small (p bit : Int) : 0 ≤ B.cost p bit ∧ B.cost p bit ≤ 161 := by
  have h1 := B.taken_lo p
  have h2 := B.taken_hi p
  unfold B.cost
  split
  · exact costing_small _ (by omega) (by omega)
  · exact costing_small _ (by omega) (by omega)
theorem costs_small (l : List Int) (at_ : Int) (bs : Nat → Int) : ∀ k : Nat, 0 ≤ costs l at_ bs k ∧ costs l at_ bs k ≤ 161 * k
  | 0 => ⟨Int.le_refl _, Int.le_refl _⟩
  | k + 1 => by
    have ⟨h1, h2⟩ := costs_small l at_ bs k
    have := B.cost_small (l.getD (at_ + node bs k).toNat 0) (bs k)
    simp only [costs]
    omega
structure TS.Ok (a : TS) : Prop where
  s : R.Ok a.s
  f : B.Fine a.l
theorem TS.Ok.bit {a : TS} (h : a.Ok) {i : Int} (h0 : 0 ≤ i) (h1 : i < a.l.length) (bit : Int) : (a.bit i bit).Ok ∧ (a.bit i bit).s.k ≤ a.s.k + 3 := by
  have hx : a.l[i.toNat]? = some (a.l.getD i.toNat 0) := by
    rw [List.getD_eq_getElem?_getD, List.getElem?_eq_getElem (show i.toNat < a.l.length by omega)]; rfl
  have hp := h.f.get hx
  have c1 := B.bound_pos (rng := a.s.R) h.s.r0 hp.1
  have c2 := B.bound_lt (rng := a.s.R) (p := a.l.getD i.toNat 0) h.s.r0
  exact ⟨⟨h.s.cut _ _ c1 c2, h.f.set _ ⟨B.next_lo _ hp.1 hp.2, B.next_hi _ hp.1 hp.2⟩⟩, cut_k h.s _ _ c1 c2⟩
theorem TS.bit_len (a : TS) (i bit : Int) : (a.bit i bit).l.length = a.l.length := by simp [TS.bit]
theorem TS.put_len (a : TS) (at_ : Int) (bs : Nat → Int) : ∀ k, (a.put at_ bs k).l.length = a.l.length
  | 0 => rfl
  | k + 1 => by rw [TS.put, TS.bit_len, TS.put_len a at_ bs k]
theorem There.place {len : Nat} {at_ n : Int} (h : There len at_ n) {bs : Nat → Int} (hb : ∀ k, 0 ≤ bs k ∧ bs k ≤ 1) {k : Nat} (hk : k < n.toNat) : 0 ≤ at_ + node bs k ∧ at_ + node bs k < len ∧ at_ < at_ + node bs k := by
  obtain ⟨h1, h2, h3, h4, h5⟩ := h
  have ⟨i1, i2⟩ := node_lo hb k
  have p : (0 : Int) < 2 ^ k := Int.pow_pos (by omega)
  have : (2 : Int) ^ (k + 1) ≤ 2 ^ n.toNat := two_le (by omega)
  omega
theorem TS.Ok.put {a : TS} (h : a.Ok) {at_ n : Int} (ht : There a.l.length at_ n) {bs : Nat → Int} (hb : ∀ k, 0 ≤ bs k ∧ bs k ≤ 1) : ∀ k : Nat, k ≤ n.toNat → (a.put at_ bs k).Ok ∧ (a.put at_ bs k).s.k ≤ a.s.k + 3 * k
  | 0, _ => ⟨h, Nat.le_refl _⟩
  | k + 1, hk => by
    have ⟨i1, i2⟩ := TS.Ok.put h ht hb k (by omega)
    have hp := ht.place hb (k := k) (by omega)
    have hl := a.put_len at_ bs k
    have ⟨j1, j2⟩ := i1.bit (i := at_ + node bs k) hp.1 (by omega) (bs k)
    exact ⟨j1, by simp only [TS.put]; omega⟩
end R
end Go.Proofs.Ytoejaggkedlfmaa

namespace Go.Proofs.Ytoejaggkedlfmaa
open Go
set_option linter.unusedSimpArgs false
set_option linter.unnecessarySimpa false
set_option linter.unusedSectionVars false
set_option linter.unusedVariables false
attribute [local irreducible] oMv oV oU oCall oCallV oBi oBin oUn oLoad oStore oNil oFld oField oIdx oIndex oPick oAlloc oBox oBuild oBs oConv oMk oSl oExt oFn oIface oMap oLook oMapUp oRange oNext oAssert oPanic oRes pN pA pL pDr pIf gA pGd

section
variable {E w : World} {M : List HA} {Q : Value → World → Prop} {b p : Nat} {s : R.S} {l : List Int}

theorem order_ok (back : Bool) (n k : Nat) (hk : k < n) (hn : n ≤ 16) (hQ : Q (.int .i64 (if back then k else n - 1 - k : Nat)) w) : Calls Try.prog 111 #[.bool back, .int .i64 n, .int .i64 k] w (retP Q) := by
  refine tree_order.calls ?_
  unfold tree_order.F
  cases back
  · repeat' (first | refine pIf_f ?_ | refine pN_via (by (intro K; simp (disch := omega) only [go_sem, pN_min, pN_max, w_u32, w_u64, Option.isNone_some, Option.isNone_none]; (try simp only [wrap_u32, wrap_u64]); rfl)) ?_ | fail)
    have e : (n : Int) - 1 - k = ((n - 1 - k : Nat) : Int) := by omega
    rw [e]; exact hQ
  · repeat' (first | refine pIf_t ?_ | fail)
    exact hQ

theorem there_ok (hS : Sat E w (PSet p l :: M)) (at_ n : Int) (hQ : ∀ w, Sat E w (PSet p l :: M) → Q (.bool (decide (R.There l.length at_ n))) w) : Calls Try.prog 107 #[.pointer (some ⟨p, 0, none⟩), .int .i64 at_, .int .i64 n] w (retP Q) := by
  refine tree_there.calls ?_
  unfold tree_there.F
  obtain ⟨sl, hS'⟩ := PSet.opn hS
  have hlen := rows_len (C := cd_int) sl hS'
  have shl : ∀ (w : World) (J : Value → Prop), 0 ≤ n → n ≤ 16 → J (.int .i64 (2 ^ n.toNat)) → pA Try.prog (oBin .shl 3 (.const (.int .i64 1)) (.tmp 24) (.int .i64 1) (.int .i64 n)) J := by
    intro w J h0 h1 h
    refine pA_shl_k n.toNat (Int.toNat_of_nonneg h0).symm (by show _ ≤ 64; omega) ?_
    have e : (1 : Int) * 2 ^ n.toNat = 2 ^ n.toNat := Int.one_mul _
    have h2 : (2 : Int) ^ n.toNat ≤ 2 ^ 16 := R.two_le (by omega)
    have h3 : (0 : Int) < 2 ^ n.toNat := Int.pow_pos (by omega)
    have e2 : (2 : Int) ^ 16 = 65536 := by decide
    rw [e, wrap_i64 (by omega)]
    exact h
  have fin : ∀ w b, (b = true ↔ R.There l.length at_ n) → Sat E w (PSet p l :: M) → Q (.bool b) w := by
    intro w b hb hS
    have := hQ w hS
    by_cases h : R.There l.length at_ n
    · rw [decide_eq_true h] at this
      rw [hb.2 h]; exact this
    · rw [decide_eq_false h] at this
      have : b = false := by
        cases b
        · rfl
        · exact absurd (hb.1 rfl) h
      rw [this]; assumption
  repeat' (first | (refine pc_prob_Set_Len (Len_ok (hS.fd (PSet p)) ?_); clear hS; intro w hS) | refine shl w _ (by omega) (by omega) ?_ | ((first | refine pA_leq_s ?_ ?_ | refine pA_geq_s ?_ ?_) <;> intro hc <;> try (exfalso; omega)) | refine gA_go (by rfl) ?_ | refine gA_no (by rfl) ?_ | refine pGd_go (by rfl) ?_ | refine pGd_no (by rfl) ?_ | (refine pDr_go hS ?_; clear hS; intro w hS) | refine ⟨trivial, ?_⟩ | refine pA_via (by (intro K; simp (disch := omega) only [go_sem, pN_min, pN_max, w_u32, w_u64, Option.isNone_some, Option.isNone_none]; (try simp only [wrap_u32, wrap_u64]); rfl)) ?_ | fail)
  all_goals
    refine fin _ _ ?_ hS
    unfold R.There
    first
      | (refine ⟨fun _ => (by omega), fun _ => rfl⟩)
      | (refine ⟨fun h => (by cases h), fun h => (by omega)⟩)

theorem holds_ok (v n : Int) (h0 : 0 ≤ n) (h1 : n ≤ 16) (hQ : Q (.bool (decide (R.Holds v n))) w) : Calls Try.prog 108 #[.int .i64 v, .int .i64 n] w (retP Q) := by
  refine tree_holds.calls ?_
  unfold tree_holds.F
  have shl : ∀ (w : World) (K : Value → World → Prop), K (.int .i64 (2 ^ n.toNat)) w → pN Try.prog (oBin .shl 3 (.const (.int .i64 1)) (.tmp 9) (.int .i64 1) (.int .i64 n)) w K := by
    intro w K h
    refine pN_shl_k n.toNat (Int.toNat_of_nonneg h0).symm (by show _ ≤ 64; omega) ?_
    have e : (1 : Int) * 2 ^ n.toNat = 2 ^ n.toNat := Int.one_mul _
    have h2 : (2 : Int) ^ n.toNat ≤ 2 ^ 16 := R.two_le (by omega)
    have h3 : (0 : Int) < 2 ^ n.toNat := Int.pow_pos (by omega)
    have e2 : (2 : Int) ^ 16 = 65536 := by decide
    rw [e, wrap_i64 (by omega)]
    exact h
  have fin : ∀ b, (b = true ↔ R.Holds v n) → Q (.bool b) w := by
    intro b hb
    by_cases h : R.Holds v n
    · rw [decide_eq_true h] at hQ
      rw [hb.2 h]; exact hQ
    · rw [decide_eq_false h] at hQ
      have : b = false := by
        cases b
        · rfl
        · exact absurd (hb.1 rfl) h
      rw [this]; exact hQ
  repeat' (first | refine shl w _ ?_ | ((first | refine pN_lss_s ?_ ?_ | refine pN_geq_s ?_ ?_) <;> intro hc <;> try (exfalso; omega)) | refine pGd_go (by rfl) ?_ | refine pGd_no (by rfl) ?_ | refine pN_via (by (intro K; simp (disch := omega) only [go_sem, pN_min, pN_max, w_u32, w_u64, Option.isNone_some, Option.isNone_none]; (try simp only [wrap_u32, wrap_u64]); rfl)) ?_ | fail)
  all_goals
    refine fin _ ?_
    unfold R.Holds
    first
      | (refine ⟨fun _ => (by omega), fun _ => rfl⟩)
      | (refine ⟨fun h => (by cases h), fun h => (by omega)⟩)

/-- down, by what each call of the function keeps: the first k bits have been told. -/
theorem down_ok (at_ : Int) (n : Nat) (g : Value) (bs : Nat → Int) (hb : ∀ k, 0 ≤ bs k ∧ bs k ≤ 1) (hn : n ≤ 16) (h0 : 0 ≤ at_) (h1 : at_ ≤ 1099511627776) (Inv : Nat → World → Prop)
    (hI : Inv 0 w) (step : ∀ k w (K : Value → World → Prop), k < n → Inv k w → (∀ w, Inv (k + 1) w → K (.tuple #[.int .i64 (bs k), .int .i64 0]) w) → pN Try.prog (oCallV g [.int .i64 (at_ + R.node bs k), .int .i64 k]) w K)
    (hQ : ∀ w, Inv n w → Q (.int .i64 0) w) : Calls Try.prog 109 #[.int .i64 at_, .int .i64 n, g] w (retP Q) := by
  refine tree_down.calls ?_
  unfold tree_down.F
  refine ⟨fun m v w => ∃ k : Nat, m = .int .i64 (R.node bs k) ∧ v = .int .i64 k ∧ k ≤ n ∧ Inv k w, fun _ v _ => n - (RowKit.intOf v).toNat, ⟨0, rfl, rfl, Nat.zero_le _, hI⟩, ?_⟩
  rintro _ _ _ w1 ⟨k, rfl, rfl, hk, hI⟩
  have hm := R.node_lo hb k
  have h2 : (2 : Int) ^ (k + 1) ≤ 2 ^ 17 := R.two_le (by omega)
  have h3 : (0 : Int) < 2 ^ k := Int.pow_pos (by omega)
  have e2 : (2 : Int) ^ 17 = 131072 := by decide
  have hbk := hb k
  repeat' (first | (refine pN_lss_s ?_ ?_ <;> intro hc <;> try (exfalso; omega)) | refine pIf_t ?_ | refine pIf_f ?_ | refine pN_via (by (intro K; simp (disch := omega) only [go_sem, pN_min, pN_max, w_u32, w_u64, Option.isNone_some, Option.isNone_none]; (try simp only [wrap_u32, wrap_u64]); rfl)) ?_ | fail)
  · refine step k _ _ (by omega) hI fun w hI => ?_
    repeat' (first | (refine pN_neq_s ?_ ?_ <;> intro hc <;> try (exfalso; first | omega | exact hc rfl | exact hc (by assumption) | exact absurd hc (by assumption))) | refine pIf_f ?_ | refine pN_via (by (intro K; simp (disch := omega) only [go_sem, pN_min, pN_max, w_u32, w_u64, Option.isNone_some, Option.isNone_none]; (try simp only [wrap_u32, wrap_u64]); rfl)) ?_ | fail)
    exact ⟨⟨k + 1, rfl, rfl, by omega, hI⟩, by simp [RowKit.intOf] <;> omega⟩
  · obtain rfl : k = n := by omega
    exact hQ _ hI

/-- The function that put hands down. -/
theorem put_c1_ok {c1 c2 c3 c4 c5 : Nat} {v : Int} {back : Bool} {n k : Nat} (place : Int)
    (hS : Sat E w (Enc b s :: PSet p l :: cel c1 ⟨3, [.int .i64 v]⟩ :: cel c2 ⟨4, [.bool back]⟩ :: cel c3 ⟨3, [.int .i64 n]⟩ :: cel c4 ⟨24, [.pointer (some ⟨b, 0, none⟩)]⟩ :: cel c5 ⟨34, [.pointer (some ⟨p, 0, none⟩)]⟩ :: M))
    (hf : B.Fine l) (hs : s.k + 10 ≤ 140737488355328) (hk : k < n) (hn : n ≤ 16) (p0 : 0 ≤ place) (p1 : place < l.length)
    (hQ : ∀ w, Sat E w (Enc b (R.TS.bit ⟨s, l⟩ place (R.bitAt back n v k)).s :: PSet p (R.TS.bit ⟨s, l⟩ place (R.bitAt back n v k)).l :: cel c1 ⟨3, [.int .i64 v]⟩ :: cel c2 ⟨4, [.bool back]⟩ :: cel c3 ⟨3, [.int .i64 n]⟩ :: cel c4 ⟨24, [.pointer (some ⟨b, 0, none⟩)]⟩ :: cel c5 ⟨34, [.pointer (some ⟨p, 0, none⟩)]⟩ :: M) → Q (.tuple #[.int .i64 (R.bitAt back n v k), .int .i64 0]) w) :
    Calls Try.prog 113 #[.int .i64 place, .int .i64 k, .pointer (some ⟨c1, 0, none⟩), .pointer (some ⟨c2, 0, none⟩), .pointer (some ⟨c3, 0, none⟩), .pointer (some ⟨c4, 0, none⟩), .pointer (some ⟨c5, 0, none⟩)] w (retP Q) := by
  simp only [R.TS.bit, R.bitAt] at hQ
  refine tree_put_c1.calls ?_
  unfold tree_put_c1.F
  have hx : l[place.toNat]? = some (l.getD place.toNat 0) := by
    rw [List.getD_eq_getElem?_getD, List.getElem?_eq_getElem (show place.toNat < l.length by omega)]; rfl
  have hj : (if back then k else n - 1 - k) ≤ 64 := by split <;> omega
  repeat' (first | refine pc_tree_order (order_ok back n k hk hn ?_) | refine pA_shr_k _ rfl hj ?_ | (refine pc_rcenc_Encoder_Bit (Bit_in (hS.fd2 (Enc b) (PSet p)) hf hs _ _ p0 hx ?_); clear hS; intro w hS) | refine pN_l hS (by first | rfl | assumption) ?_ | refine pL_l hS (by first | rfl | assumption) ?_ | (refine pDr_go hS ?_; clear hS; intro w hS) | refine ⟨⟨(by first | exact run_l hS (by first | rfl | assumption) | exact run_st hS (by first | rfl | omega) | exact run_ld1 ha hS | exact fun _ => run_l hS (by rfl) | exact fun _ => run_st hS (by first | rfl | omega) | exact fun _ => run_ld1 ha hS | exact fun h => Bool.noConfusion h), trivial⟩, ?_⟩ | refine pA_via (by (intro K; simp (disch := omega) only [go_sem, pN_min, pN_max, w_u32, w_u64, Option.isNone_some, Option.isNone_none]; (try simp only [wrap_u32, wrap_u64]); rfl)) ?_ | fail)
  exact hQ _ hS.to

theorem put_ok (hS : Sat E w (Enc b s :: PSet p l :: M)) (ho : R.Ok s) (hf : B.Fine l) (hs : s.k + 100 ≤ 140737488355328) (at_ n v : Int) (back : Bool) (hl : l.length ≤ 1048576)
    (hQ : ∀ w, Sat E w (Enc b (if R.There l.length at_ n ∧ R.Holds v n then R.TS.put ⟨s, l⟩ at_ (R.bitAt back n.toNat v) n.toNat else ⟨s, l⟩).s :: PSet p (if R.There l.length at_ n ∧ R.Holds v n then R.TS.put ⟨s, l⟩ at_ (R.bitAt back n.toNat v) n.toNat else ⟨s, l⟩).l :: M) →
      Q (.int .i64 (if R.There l.length at_ n ∧ R.Holds v n then 0 else 7)) w) :
    Calls Try.prog 97 #[.pointer (some ⟨b, 0, none⟩), .pointer (some ⟨p, 0, none⟩), .int .i64 at_, .int .i64 n, .int .i64 v, .bool back] w (retP Q) := by
  refine tree_put.calls ?_
  unfold tree_put.F
  by_cases ht : R.There l.length at_ n
  · by_cases hh : R.Holds v n
    · have hc : R.There l.length at_ n ∧ R.Holds v n := ⟨ht, hh⟩
      simp only [if_pos hc] at hQ
      have ht' := ht
      obtain ⟨n0, n1, a0, a1, a2⟩ := ht'
      refine pN_bx hS (by rfl) fun c4 w hS => ?_
      refine pN_bx hS (by rfl) fun c5 w hS => ?_
      refine pN_bx hS (by rfl) fun c3 w hS => ?_
      refine pN_bx hS (by rfl) fun c1 w hS => ?_
      refine pN_bx hS (by rfl) fun c2 w hS => ?_
      have t1 : decide (R.There l.length at_ n) = true := decide_eq_true ht
      have t2 : decide (R.Holds v n) = true := decide_eq_true hh
      repeat' (first | (refine pc_tree_there (there_ok (hS.fd (PSet p)) _ _ ?_); rw [t1]; clear hS; intro w hS) | (refine pc_tree_holds (holds_ok _ _ n0 n1 ?_); rw [t2]) | refine pIf_f ?_ | refine pGd_go (by rfl) ?_ | refine pN_l hS (by first | rfl | assumption) ?_ | refine pN_fn ?_ | refine pN_via (by (intro K; simp (disch := omega) only [go_sem, pN_min, pN_max, w_u32, w_u64, Option.isNone_some, Option.isNone_none]; (try simp only [wrap_u32, wrap_u64]); rfl)) ?_ | fail)
      obtain ⟨m, rfl⟩ : ∃ m : Nat, n = m := ⟨n.toNat, by omega⟩
      rw [Int.toNat_natCast] at hQ
      have hb := R.bitAt_01 back m v
      have oa : R.TS.Ok ⟨s, l⟩ := ⟨ho, hf⟩
      refine pc_tree_down (down_ok at_ m _ (R.bitAt back m v) hb (by omega) a0 (by omega)
        (fun k w => Sat E w (Enc b (R.TS.put ⟨s, l⟩ at_ (R.bitAt back m v) k).s :: PSet p (R.TS.put ⟨s, l⟩ at_ (R.bitAt back m v) k).l :: cel c1 ⟨3, [.int .i64 v]⟩ :: cel c2 ⟨4, [.bool back]⟩ :: cel c3 ⟨3, [.int .i64 m]⟩ :: cel c4 ⟨24, [.pointer (some ⟨b, 0, none⟩)]⟩ :: cel c5 ⟨34, [.pointer (some ⟨p, 0, none⟩)]⟩ :: M)) (by simp only [R.TS.put, R.costs]; exact hS.to) ?_ ?_)
      · intro k w K hk hS hK
        have ⟨o1, o2⟩ := oa.put ht hb k (by rw [Int.toNat_natCast]; omega)
        have hp := ht.place hb (k := k) (by rw [Int.toNat_natCast]; omega)
        have hlen := R.TS.put_len ⟨s, l⟩ at_ (R.bitAt back m v) k
        simp only at o2 hlen
        refine pv_tree_put_c1 (put_c1_ok _ hS o1.f (by omega) hk (by omega) hp.1 (by omega) fun w hS => hK w hS)
      · intro w hS
        skip
        exact hQ _ hS.to
    · have hc : ¬ (R.There l.length at_ n ∧ R.Holds v n) := fun h => hh h.2
      simp only [if_neg hc] at hQ
      have ht' := ht
      obtain ⟨n0, n1, a0, a1, a2⟩ := ht'
      have t1 : decide (R.There l.length at_ n) = true := decide_eq_true ht
      have t2 : decide (R.Holds v n) = false := decide_eq_false hh
      repeat' (first | (refine pc_tree_there (there_ok (hS.fd (PSet p)) _ _ ?_); rw [t1]; clear hS; intro w hS) | (refine pc_tree_holds (holds_ok _ _ n0 n1 ?_); rw [t2]) | refine pIf_t ?_ | refine pGd_go (by rfl) ?_ | refine pN_l hS (by first | rfl | assumption) ?_ | (refine pN_bx hS (by rfl) ?_; clear hS; intro a w hS) | refine pN_via (by (intro K; simp (disch := omega) only [go_sem, pN_min, pN_max, w_u32, w_u64, Option.isNone_some, Option.isNone_none]; (try simp only [wrap_u32, wrap_u64]); rfl)) ?_ | fail)
      exact hQ _ hS.to
  · have hc : ¬ (R.There l.length at_ n ∧ R.Holds v n) := fun h => ht h.1
    simp only [if_neg hc] at hQ
    have t1 : decide (R.There l.length at_ n) = false := decide_eq_false ht
    repeat' (first | (refine pc_tree_there (there_ok (hS.fd (PSet p)) _ _ ?_); rw [t1]; clear hS; intro w hS) | refine pIf_t ?_ | refine pGd_no (by rfl) ?_ | refine pN_l hS (by first | rfl | assumption) ?_ | (refine pN_bx hS (by rfl) ?_; clear hS; intro a w hS) | refine pN_via (by (intro K; simp (disch := omega) only [go_sem, pN_min, pN_max, w_u32, w_u64, Option.isNone_some, Option.isNone_none]; (try simp only [wrap_u32, wrap_u64]); rfl)) ?_ | fail)
    exact hQ _ hS.to

/-- The function that cost hands down. -/
theorem cost_c1_ok {c1 c2 c3 c4 c5 : Nat} {v sum : Int} {back : Bool} {n k : Nat} (place : Int)
    (hS : Sat E w (PSet p l :: cel c5 ⟨3, [.int .i64 sum]⟩ :: cel c1 ⟨3, [.int .i64 v]⟩ :: cel c2 ⟨4, [.bool back]⟩ :: cel c3 ⟨3, [.int .i64 n]⟩ :: cel c4 ⟨34, [.pointer (some ⟨p, 0, none⟩)]⟩ :: M))
    (hk : k < n) (hn : n ≤ 16) (p0 : 0 ≤ place) (p1 : place < l.length) (s0 : -1000000 ≤ sum) (s1 : sum ≤ 1000000)
    (hQ : ∀ w, Sat E w (PSet p l :: cel c5 ⟨3, [.int .i64 (sum + B.cost (l.getD place.toNat 0) (R.bitAt back n v k))]⟩ :: cel c1 ⟨3, [.int .i64 v]⟩ :: cel c2 ⟨4, [.bool back]⟩ :: cel c3 ⟨3, [.int .i64 n]⟩ :: cel c4 ⟨34, [.pointer (some ⟨p, 0, none⟩)]⟩ :: M) → Q (.tuple #[.int .i64 (R.bitAt back n v k), .int .i64 0]) w) :
    Calls Try.prog 110 #[.int .i64 place, .int .i64 k, .pointer (some ⟨c1, 0, none⟩), .pointer (some ⟨c2, 0, none⟩), .pointer (some ⟨c3, 0, none⟩), .pointer (some ⟨c4, 0, none⟩), .pointer (some ⟨c5, 0, none⟩)] w (retP Q) := by
  simp only [R.bitAt] at hQ
  refine tree_cost_c1.calls ?_
  unfold tree_cost_c1.F
  have hx : l[place.toNat]? = some (l.getD place.toNat 0) := by
    rw [List.getD_eq_getElem?_getD, List.getElem?_eq_getElem (show place.toNat < l.length by omega)]; rfl
  have hj : (if back then k else n - 1 - k) ≤ 64 := by split <;> omega
  have hc := B.cost_small (l.getD place.toNat 0) (v / 2 ^ (if back then k else n - 1 - k) % 2)
  repeat' (first | refine pc_tree_order (order_ok back n k hk hn ?_) | refine pA_shr_k _ rfl hj ?_ | (refine pc_prob_Set_At (At_in (hS.fd (PSet p)) _ p0 hx ?_); clear hS; intro w hS) | refine pc_prob_Cost (Cost_ok _ _ ?_) | refine pN_l hS (by first | rfl | assumption) ?_ | refine pL_l hS (by first | rfl | assumption) ?_ | (refine pN_s hS (by first | exact Nat.le_of_ble_eq_true rfl | assumption) (by rfl) ?_; clear hS; intro w hS; try simp only [List.set_cons_zero, List.set_cons_succ] at hS) | (refine pDr_go hS ?_; clear hS; intro w hS) | refine ⟨trivial, ?_⟩ | refine ⟨⟨(by first | exact run_l hS (by first | rfl | assumption) | exact run_st hS (by first | rfl | omega) | exact run_ld1 ha hS | exact fun _ => run_l hS (by rfl) | exact fun _ => run_st hS (by first | rfl | omega) | exact fun _ => run_ld1 ha hS | exact fun h => Bool.noConfusion h), trivial⟩, ?_⟩ | refine pN_via (by (intro K; simp (disch := omega) only [go_sem, pN_min, pN_max, w_u32, w_u64, Option.isNone_some, Option.isNone_none]; (try simp only [wrap_u32, wrap_u64]); rfl)) ?_ | refine pA_via (by (intro K; simp (disch := omega) only [go_sem, pN_min, pN_max, w_u32, w_u64, Option.isNone_some, Option.isNone_none]; (try simp only [wrap_u32, wrap_u64]); rfl)) ?_ | fail)
  exact hQ _ hS.to

theorem cost_ok (hS : Sat E w (PSet p l :: M)) (at_ n v : Int) (back : Bool) (hl : l.length ≤ 1048576)
    (hQ : ∀ w, Sat E w (PSet p l :: M) → Q (.tuple #[.int .i64 (if R.There l.length at_ n ∧ R.Holds v n then R.costs l at_ (R.bitAt back n.toNat v) n.toNat else 0), .int .i64 (if R.There l.length at_ n ∧ R.Holds v n then 0 else 7)]) w) :
    Calls Try.prog 96 #[.pointer (some ⟨p, 0, none⟩), .int .i64 at_, .int .i64 n, .int .i64 v, .bool back] w (retP Q) := by
  refine tree_cost.calls ?_
  unfold tree_cost.F
  by_cases ht : R.There l.length at_ n
  · by_cases hh : R.Holds v n
    · have hc : R.There l.length at_ n ∧ R.Holds v n := ⟨ht, hh⟩
      simp only [if_pos hc] at hQ
      have ht' := ht
      obtain ⟨n0, n1, a0, a1, a2⟩ := ht'
      refine pN_bx hS (by rfl) fun c4 w hS => ?_
      refine pN_bx hS (by rfl) fun c3 w hS => ?_
      refine pN_bx hS (by rfl) fun c1 w hS => ?_
      refine pN_bx hS (by rfl) fun c2 w hS => ?_
      have t1 : decide (R.There l.length at_ n) = true := decide_eq_true ht
      have t2 : decide (R.Holds v n) = true := decide_eq_true hh
      repeat' (first | (refine pc_tree_there (there_ok (hS.fd (PSet p)) _ _ ?_); rw [t1]; clear hS; intro w hS) | (refine pc_tree_holds (holds_ok _ _ n0 n1 ?_); rw [t2]) | (refine pN_nz hS ?_; clear hS; intro c5 w hS) | refine pIf_f ?_ | refine pGd_go (by rfl) ?_ | refine pN_l hS (by first | rfl | assumption) ?_ | (refine pN_s hS (by first | exact Nat.le_of_ble_eq_true rfl | assumption) (by rfl) ?_; clear hS; intro w hS; try simp only [List.set_cons_zero, List.set_cons_succ] at hS) | refine pN_fn ?_ | refine pN_via (by (intro K; simp (disch := omega) only [go_sem, pN_min, pN_max, w_u32, w_u64, Option.isNone_some, Option.isNone_none]; (try simp only [wrap_u32, wrap_u64]); rfl)) ?_ | fail)
      obtain ⟨m, rfl⟩ : ∃ m : Nat, n = m := ⟨n.toNat, by omega⟩
      rw [Int.toNat_natCast] at hQ
      have hb := R.bitAt_01 back m v
      refine pc_tree_down (down_ok at_ m _ (R.bitAt back m v) hb (by omega) a0 (by omega)
        (fun k w => Sat E w (PSet p l :: cel c5 ⟨3, [.int .i64 (R.costs l at_ (R.bitAt back m v) k)]⟩ :: cel c1 ⟨3, [.int .i64 v]⟩ :: cel c2 ⟨4, [.bool back]⟩ :: cel c3 ⟨3, [.int .i64 m]⟩ :: cel c4 ⟨34, [.pointer (some ⟨p, 0, none⟩)]⟩ :: M)) (by simp only [R.TS.put, R.costs]; exact hS.to) ?_ ?_)
      · intro k w K hk hS hK
        have hp := ht.place hb (k := k) (by rw [Int.toNat_natCast]; omega)
        have hs := R.costs_small l at_ (R.bitAt back m v) k
        refine pv_tree_cost_c1 (cost_c1_ok _ hS hk (by omega) hp.1 (by omega) (by omega) (by omega) fun w hS => hK w hS)
      · intro w hS
        repeat' (first | refine pN_l hS (by first | rfl | assumption) ?_ | fail)
        exact hQ _ hS.to
    · have hc : ¬ (R.There l.length at_ n ∧ R.Holds v n) := fun h => hh h.2
      simp only [if_neg hc] at hQ
      have ht' := ht
      obtain ⟨n0, n1, a0, a1, a2⟩ := ht'
      have t1 : decide (R.There l.length at_ n) = true := decide_eq_true ht
      have t2 : decide (R.Holds v n) = false := decide_eq_false hh
      repeat' (first | (refine pc_tree_there (there_ok (hS.fd (PSet p)) _ _ ?_); rw [t1]; clear hS; intro w hS) | (refine pc_tree_holds (holds_ok _ _ n0 n1 ?_); rw [t2]) | refine pIf_t ?_ | refine pGd_go (by rfl) ?_ | refine pN_l hS (by first | rfl | assumption) ?_ | (refine pN_bx hS (by rfl) ?_; clear hS; intro a w hS) | refine pN_via (by (intro K; simp (disch := omega) only [go_sem, pN_min, pN_max, w_u32, w_u64, Option.isNone_some, Option.isNone_none]; (try simp only [wrap_u32, wrap_u64]); rfl)) ?_ | fail)
      exact hQ _ hS.to
  · have hc : ¬ (R.There l.length at_ n ∧ R.Holds v n) := fun h => ht h.1
    simp only [if_neg hc] at hQ
    have t1 : decide (R.There l.length at_ n) = false := decide_eq_false ht
    repeat' (first | (refine pc_tree_there (there_ok (hS.fd (PSet p)) _ _ ?_); rw [t1]; clear hS; intro w hS) | refine pIf_t ?_ | refine pGd_no (by rfl) ?_ | refine pN_l hS (by first | rfl | assumption) ?_ | (refine pN_bx hS (by rfl) ?_; clear hS; intro a w hS) | refine pN_via (by (intro K; simp (disch := omega) only [go_sem, pN_min, pN_max, w_u32, w_u64, Option.isNone_some, Option.isNone_none]; (try simp only [wrap_u32, wrap_u64]); rfl)) ?_ | fail)
    exact hQ _ hS.to

theorem Put_ok (hS : Sat E w (Enc b s :: PSet p l :: M)) (ho : R.Ok s) (hf : B.Fine l) (hs : s.k + 100 ≤ 140737488355328) (at_ n v : Int) (hl : l.length ≤ 1048576)
    (hQ : ∀ w, Sat E w (Enc b (if R.There l.length at_ n ∧ R.Holds v n then R.TS.put ⟨s, l⟩ at_ (R.bitAt false n.toNat v) n.toNat else ⟨s, l⟩).s :: PSet p (if R.There l.length at_ n ∧ R.Holds v n then R.TS.put ⟨s, l⟩ at_ (R.bitAt false n.toNat v) n.toNat else ⟨s, l⟩).l :: M) →
      Q (.int .i64 (if R.There l.length at_ n ∧ R.Holds v n then 0 else 7)) w) :
    Calls Try.prog 61 #[.pointer (some ⟨b, 0, none⟩), .pointer (some ⟨p, 0, none⟩), .int .i64 at_, .int .i64 n, .int .i64 v] w (retP Q) := by
  refine tree_Put.calls ?_
  unfold tree_Put.F
  refine pc_tree_put (put_ok hS ho hf hs at_ n v false hl fun w hS => ?_)
  exact hQ w hS
theorem Put_in (hS : Sat E w (Enc b s :: PSet p l :: M)) (ho : R.Ok s) (hf : B.Fine l) (hs : s.k + 100 ≤ 140737488355328) (at_ n v : Int) (hl : l.length ≤ 1048576) (ht : R.There l.length at_ n) (hh : R.Holds v n)
    (hQ : ∀ w, Sat E w (Enc b (R.TS.put ⟨s, l⟩ at_ (R.bitAt false n.toNat v) n.toNat).s :: PSet p (R.TS.put ⟨s, l⟩ at_ (R.bitAt false n.toNat v) n.toNat).l :: M) → Q (.int .i64 0) w) :
    Calls Try.prog 61 #[.pointer (some ⟨b, 0, none⟩), .pointer (some ⟨p, 0, none⟩), .int .i64 at_, .int .i64 n, .int .i64 v] w (retP Q) := by
  refine Put_ok hS ho hf hs at_ n v hl fun w hS => ?_
  rw [if_pos ⟨ht, hh⟩] at hS ⊢
  exact hQ w hS

theorem PutBack_ok (hS : Sat E w (Enc b s :: PSet p l :: M)) (ho : R.Ok s) (hf : B.Fine l) (hs : s.k + 100 ≤ 140737488355328) (at_ n v : Int) (hl : l.length ≤ 1048576)
    (hQ : ∀ w, Sat E w (Enc b (if R.There l.length at_ n ∧ R.Holds v n then R.TS.put ⟨s, l⟩ at_ (R.bitAt true n.toNat v) n.toNat else ⟨s, l⟩).s :: PSet p (if R.There l.length at_ n ∧ R.Holds v n then R.TS.put ⟨s, l⟩ at_ (R.bitAt true n.toNat v) n.toNat else ⟨s, l⟩).l :: M) →
      Q (.int .i64 (if R.There l.length at_ n ∧ R.Holds v n then 0 else 7)) w) :
    Calls Try.prog 60 #[.pointer (some ⟨b, 0, none⟩), .pointer (some ⟨p, 0, none⟩), .int .i64 at_, .int .i64 n, .int .i64 v] w (retP Q) := by
  refine tree_PutBack.calls ?_
  unfold tree_PutBack.F
  refine pc_tree_put (put_ok hS ho hf hs at_ n v true hl fun w hS => ?_)
  exact hQ w hS
theorem PutBack_in (hS : Sat E w (Enc b s :: PSet p l :: M)) (ho : R.Ok s) (hf : B.Fine l) (hs : s.k + 100 ≤ 140737488355328) (at_ n v : Int) (hl : l.length ≤ 1048576) (ht : R.There l.length at_ n) (hh : R.Holds v n)
    (hQ : ∀ w, Sat E w (Enc b (R.TS.put ⟨s, l⟩ at_ (R.bitAt true n.toNat v) n.toNat).s :: PSet p (R.TS.put ⟨s, l⟩ at_ (R.bitAt true n.toNat v) n.toNat).l :: M) → Q (.int .i64 0) w) :
    Calls Try.prog 60 #[.pointer (some ⟨b, 0, none⟩), .pointer (some ⟨p, 0, none⟩), .int .i64 at_, .int .i64 n, .int .i64 v] w (retP Q) := by
  refine PutBack_ok hS ho hf hs at_ n v hl fun w hS => ?_
  rw [if_pos ⟨ht, hh⟩] at hS ⊢
  exact hQ w hS

theorem TCost_ok (hS : Sat E w (PSet p l :: M)) (at_ n v : Int) (hl : l.length ≤ 1048576)
    (hQ : ∀ w, Sat E w (PSet p l :: M) → Q (.tuple #[.int .i64 (if R.There l.length at_ n ∧ R.Holds v n then R.costs l at_ (R.bitAt false n.toNat v) n.toNat else 0), .int .i64 (if R.There l.length at_ n ∧ R.Holds v n then 0 else 7)]) w) :
    Calls Try.prog 58 #[.pointer (some ⟨p, 0, none⟩), .int .i64 at_, .int .i64 n, .int .i64 v] w (retP Q) := by
  refine tree_Cost.calls ?_
  unfold tree_Cost.F
  refine pc_tree_cost (cost_ok hS at_ n v false hl fun w hS => ?_)
  repeat' (first | refine pN_via (by (intro K; simp (disch := omega) only [go_sem, pN_min, pN_max, w_u32, w_u64, Option.isNone_some, Option.isNone_none]; (try simp only [wrap_u32, wrap_u64]); rfl)) ?_ | fail)
  exact hQ w hS
theorem TCost_in (hS : Sat E w (PSet p l :: M)) (at_ n v : Int) (hl : l.length ≤ 1048576) (ht : R.There l.length at_ n) (hh : R.Holds v n)
    (hQ : ∀ w, Sat E w (PSet p l :: M) → Q (.tuple #[.int .i64 (R.costs l at_ (R.bitAt false n.toNat v) n.toNat), .int .i64 0]) w) :
    Calls Try.prog 58 #[.pointer (some ⟨p, 0, none⟩), .int .i64 at_, .int .i64 n, .int .i64 v] w (retP Q) := by
  refine TCost_ok hS at_ n v hl fun w hS => ?_
  rw [if_pos ⟨ht, hh⟩, if_pos ⟨ht, hh⟩]
  exact hQ w hS

theorem TCostBack_ok (hS : Sat E w (PSet p l :: M)) (at_ n v : Int) (hl : l.length ≤ 1048576)
    (hQ : ∀ w, Sat E w (PSet p l :: M) → Q (.tuple #[.int .i64 (if R.There l.length at_ n ∧ R.Holds v n then R.costs l at_ (R.bitAt true n.toNat v) n.toNat else 0), .int .i64 (if R.There l.length at_ n ∧ R.Holds v n then 0 else 7)]) w) :
    Calls Try.prog 59 #[.pointer (some ⟨p, 0, none⟩), .int .i64 at_, .int .i64 n, .int .i64 v] w (retP Q) := by
  refine tree_CostBack.calls ?_
  unfold tree_CostBack.F
  refine pc_tree_cost (cost_ok hS at_ n v true hl fun w hS => ?_)
  repeat' (first | refine pN_via (by (intro K; simp (disch := omega) only [go_sem, pN_min, pN_max, w_u32, w_u64, Option.isNone_some, Option.isNone_none]; (try simp only [wrap_u32, wrap_u64]); rfl)) ?_ | fail)
  exact hQ w hS
theorem TCostBack_in (hS : Sat E w (PSet p l :: M)) (at_ n v : Int) (hl : l.length ≤ 1048576) (ht : R.There l.length at_ n) (hh : R.Holds v n)
    (hQ : ∀ w, Sat E w (PSet p l :: M) → Q (.tuple #[.int .i64 (R.costs l at_ (R.bitAt true n.toNat v) n.toNat), .int .i64 0]) w) :
    Calls Try.prog 59 #[.pointer (some ⟨p, 0, none⟩), .int .i64 at_, .int .i64 n, .int .i64 v] w (retP Q) := by
  refine TCostBack_ok hS at_ n v hl fun w hS => ?_
  rw [if_pos ⟨ht, hh⟩, if_pos ⟨ht, hh⟩]
  exact hQ w hS
end

end Go.Proofs.Ytoejaggkedlfmaa

namespace Go.Proofs.Ytoejaggkedlfmaa
open Go
set_option linter.unusedSimpArgs false
set_option linter.unnecessarySimpa false
set_option linter.unusedSectionVars false
set_option linter.unusedVariables false
set_option maxRecDepth 100000

/-! pithref09_Put: pith/pithref09.Put; temporaries: 0:e 1:s 2:at 3:n 4:v 5:back 6:e 7:s 8:at 9:n 10:v 11:back 13:bad 14:w 15:i -/
def pithref09_Put.H : Hints := { cut := fun  | _ => none, loop := fun | 6 => ([15], 140737219952640) | _ => ([], 0), order := fun | 8 => [(0, 0), (1, 1), (2, 3), (3, 7), (4, 15), (5, 31), (6, 63), (7, 127), (8, 255), (9, 511), (10, 1023), (11, 2047), (12, 4095)] | _ => [] }
def pithref09_Put.F [Pan] (x0 : Value) (x1 : Value) (x2 : Value) (x3 : Value) (x4 : Value) (x5 : Value) (w : World) (Q : Value → World → Prop) : Prop :=
 pN Try.prog (oCall 114 [x1, x2, x3, x4]) w fun x20 w1 =>
 pIf x20
 (Q (.int .i64 7) w1)
 (pN Try.prog (oCall 116 [x3, x4, x5]) w1 fun x26 w2 =>
 pN Try.prog (oCall 115 [x2, x26]) w2 fun x27 w3 =>
 ∃ (L6 : Value → World → Prop) (m6 : Value → World → Nat),
 L6 (.int .i64 0) w3 ∧
 ∀ (_k6 : Env) (i15l6 : Value) (w4 : World), L6 i15l6 w4 →
 pN Try.prog (oBi .len #[171] 3 [false] [x27]) w4 fun x30 w5 =>
 pN Try.prog (oBin .lss 3 (.tmp 28) (.tmp 30) i15l6 x30) w5 fun x31 w6 =>
 pIf x31
 (pDr w6 fun w7 =>
 pA Try.prog (oIdx 171 x27 i15l6) fun x38 =>
 pA Try.prog (oFld 175 x38 0) fun x39 =>
 pL Try.prog (oLoad 3 x39) w7 fun x40 =>
 pA Try.prog (oIdx 171 x27 i15l6) fun x43 =>
 pA Try.prog (oFld 175 x43 1) fun x44 =>
 pL Try.prog (oLoad 3 x44) w7 fun x45 =>
 pN Try.prog (oCall 31 [x0, x1, x40, x45]) w7 fun _ w8 =>
 (True) ∧ (pN Try.prog (oBin .add 3 (.tmp 32) (.const (.int .i64 1)) i15l6 (.int .i64 1)) w8 fun x33 w9 =>
 (L6 x33 w9 ∧ m6 x33 w9 < m6 i15l6 w4)))
 (Q (.int .i64 0) w6))
noncomputable def pithref09_Put.c : Code := match Try.f99.body with | some c => c | none => .skip
theorem pithref09_Put.eq [Pan] (x0 : Value) (x1 : Value) (x2 : Value) (x3 : Value) (x4 : Value) (x5 : Value) (w : World) (Q : Value → World → Prop) : cw Try.prog pithref09_Put.H pithref09_Put.c (endQ Try.prog Try.f99.results.toList Q) (argsE [x0, x1, x2, x3, x4, x5]) w = pithref09_Put.F x0 x1 x2 x3 x4 x5 w Q := by kernel_rfl
theorem pithref09_Put.calls [Pan] {x0 : Value} {x1 : Value} {x2 : Value} {x3 : Value} {x4 : Value} {x5 : Value} {w : World} {Q : Value → World → Prop} (h : pithref09_Put.F x0 x1 x2 x3 x4 x5 w Q) : Calls Try.prog 99 #[x0, x1, x2, x3, x4, x5] w (retP Q) :=
  calls_of_cw (H := pithref09_Put.H) (c := pithref09_Put.c) (args := [x0, x1, x2, x3, x4, x5]) mixed Try.func99 (by kernel_rfl) (by kernel_rfl) (Nat.le_of_ble_eq_true (by kernel_rfl)) ((pithref09_Put.eq x0 x1 x2 x3 x4 x5 w Q).mpr h)

/-! pithref09_Cost: pith/pithref09.Cost; temporaries: 0:s 1:at 2:n 3:v 4:back 5:s 6:at 7:n 8:v 9:back 12:bad 13:w 14:sum 15:i 16:p 17:_ -/
def pithref09_Cost.H : Hints := { cut := fun  | _ => none, loop := fun | 7 => ([14, 15], 36028795945467904) | _ => ([], 0), order := fun  | _ => [] }
def pithref09_Cost.F [Pan] (x0 : Value) (x1 : Value) (x2 : Value) (x3 : Value) (x4 : Value) (w : World) (Q : Value → World → Prop) : Prop :=
 pN Try.prog (oCall 114 [x0, x1, x2, x3]) w fun x22 w1 =>
 pIf x22
 (Q (.tuple #[(.int .i64 0), (.int .i64 7)]) w1)
 (pN Try.prog (oCall 116 [x2, x3, x4]) w1 fun x28 w2 =>
 pN Try.prog (oCall 115 [x1, x28]) w2 fun x29 w3 =>
 ∃ (L7 : Value → Value → World → Prop) (m7 : Value → Value → World → Nat),
 L7 (.int .i64 0) (.int .i64 0) w3 ∧
 ∀ (_k7 : Env) (sum14l7 : Value) (i15l7 : Value) (w4 : World), L7 sum14l7 i15l7 w4 →
 pN Try.prog (oBi .len #[171] 3 [false] [x29]) w4 fun x32 w5 =>
 pN Try.prog (oBin .lss 3 (.tmp 30) (.tmp 32) i15l7 x32) w5 fun x33 w6 =>
 pIf x33
 (pN Try.prog (oIdx 171 x29 i15l7) w6 fun x40 w7 =>
 pN Try.prog (oFld 175 x40 0) w7 fun x41 w8 =>
 pN Try.prog (oLoad 3 x41) w8 fun x42 w9 =>
 pN Try.prog (oCall 79 [x0, x42]) w9 fun x43 w10 =>
 pN Try.prog (oExt x43 0) w10 fun x44 w11 =>
 pN Try.prog (oExt x43 1) w11 fun _ w12 =>
 pN Try.prog (oIdx 171 x29 i15l7) w12 fun x50 w13 =>
 pN Try.prog (oFld 175 x50 1) w13 fun x51 w14 =>
 pN Try.prog (oLoad 3 x51) w14 fun x52 w15 =>
 pN Try.prog (oCall 117 [x44, x52]) w15 fun x53 w16 =>
 pN Try.prog (oBin .add 3 (.tmp 46) (.tmp 53) sum14l7 x53) w16 fun x54 w17 =>
 pN Try.prog (oBin .add 3 (.tmp 34) (.const (.int .i64 1)) i15l7 (.int .i64 1)) w17 fun x35 w18 =>
 (L7 x54 x35 w18 ∧ m7 x54 x35 w18 < m7 sum14l7 i15l7 w4))
 (Q (.tuple #[sum14l7, (.int .i64 0)]) w6))
noncomputable def pithref09_Cost.c : Code := match Try.f100.body with | some c => c | none => .skip
theorem pithref09_Cost.eq [Pan] (x0 : Value) (x1 : Value) (x2 : Value) (x3 : Value) (x4 : Value) (w : World) (Q : Value → World → Prop) : cw Try.prog pithref09_Cost.H pithref09_Cost.c (endQ Try.prog Try.f100.results.toList Q) (argsE [x0, x1, x2, x3, x4]) w = pithref09_Cost.F x0 x1 x2 x3 x4 w Q := by kernel_rfl
theorem pithref09_Cost.calls [Pan] {x0 : Value} {x1 : Value} {x2 : Value} {x3 : Value} {x4 : Value} {w : World} {Q : Value → World → Prop} (h : pithref09_Cost.F x0 x1 x2 x3 x4 w Q) : Calls Try.prog 100 #[x0, x1, x2, x3, x4] w (retP Q) :=
  calls_of_cw (H := pithref09_Cost.H) (c := pithref09_Cost.c) (args := [x0, x1, x2, x3, x4]) mixed Try.func100 (by kernel_rfl) (by kernel_rfl) (Nat.le_of_ble_eq_true (by kernel_rfl)) ((pithref09_Cost.eq x0 x1 x2 x3 x4 w Q).mpr h)

/-! pithref09_Get: pith/pithref09.Get; temporaries: 0:d 1:s 2:at 3:n 4:back 5:d 6:s 7:at 8:n 9:back 12:there 13:l 14:i 15:w 16:bit 17:e 18:v 19:i -/
def pithref09_Get.H : Hints := { cut := fun | 16 => some ([18], 302229149060648080244736) | _ => none, loop := fun | 6 => ([13, 14], 72057593971076096) | 15 => ([18, 19], 302231382846063256535040) | _ => ([], 0), order := fun | 18 => [(0, 0), (1, 1), (2, 3), (3, 7), (4, 15), (5, 31), (6, 63), (7, 127), (8, 255), (9, 511)] | _ => [] }
def pithref09_Get.F [Pan] (x0 : Value) (x1 : Value) (x2 : Value) (x3 : Value) (x4 : Value) (w : World) (Q : Value → World → Prop) : Prop :=
 pN Try.prog (oCall 119 [x1, x2, x3]) w fun x23 w1 =>
 pN Try.prog (oUn .not x23) w1 fun x25 w2 =>
 pIf x25
 (Q (.tuple #[(.int .i64 0), (.int .i64 7)]) w2)
 (∃ (L6 : Value → Value → World → Prop) (m6 : Value → Value → World → Nat),
 L6 (.slice none 0 0) (.int .i64 0) w2 ∧
 ∀ (_k6 : Env) (l13l6 : Value) (i14l6 : Value) (w3 : World), L6 l13l6 i14l6 w3 →
 pN Try.prog (oBin .lss 3 (.tmp 26) (.tmp 27) i14l6 x3) w3 fun x28 w4 =>
 pIf x28
 (pN Try.prog (oBs 23 0 []) w4 fun x32 w5 =>
 pN Try.prog (oBi .append #[23, 23] 23 [false, false] [x32, l13l6]) w5 fun x34 w6 =>
 pN Try.prog (oBs 23 1 [(0, (.int .i64 0))]) w6 fun x35 w7 =>
 pN Try.prog (oBi .append #[23, 23] 23 [false, false] [x34, x35]) w7 fun x36 w8 =>
 pN Try.prog (oCall 115 [x2, x36]) w8 fun x37 w9 =>
 pN Try.prog (oIdx 171 x37 i14l6) w9 fun x43 w10 =>
 pN Try.prog (oFld 175 x43 0) w10 fun x44 w11 =>
 pN Try.prog (oLoad 3 x44) w11 fun x45 w12 =>
 pN Try.prog (oCall 50 [x0, x1, x45]) w12 fun x46 w13 =>
 pN Try.prog (oExt x46 0) w13 fun x47 w14 =>
 pN Try.prog (oExt x46 1) w14 fun x48 w15 =>
 pN Try.prog (oBin .neq 3 (.tmp 49) (.const (.int .i64 0)) x48 (.int .i64 0)) w15 fun x50 w16 =>
 pIf x50
 (Q (.tuple #[(.int .i64 0), x48]) w16)
 (pN Try.prog (oBs 23 1 [(0, x47)]) w16 fun x54 w17 =>
 pN Try.prog (oBi .append #[23, 23] 23 [false, false] [l13l6, x54]) w17 fun x55 w18 =>
 pN Try.prog (oBin .add 3 (.tmp 29) (.const (.int .i64 1)) i14l6 (.int .i64 1)) w18 fun x30 w19 =>
 (L6 x55 x30 w19 ∧ m6 x55 x30 w19 < m6 l13l6 i14l6 w3)))
 (∃ (L15 : Value → Value → World → Prop) (m15 : Value → Value → World → Nat),
 L15 (.int .i64 0) (.int .i64 0) w4 ∧
 ∀ (_k15 : Env) (v18l15 : Value) (i19l15 : Value) (w20 : World), L15 v18l15 i19l15 w20 →
 pN Try.prog (oBin .lss 3 (.tmp 56) (.tmp 57) i19l15 x3) w20 fun x58 w21 =>
 pIf x58
 (∃ I16 : Value → World → Prop,
 (pIf x4
 (pDr w21 fun w22 =>
 pA Try.prog (oIdx 23 l13l6 i19l15) fun x65 =>
 pL Try.prog (oLoad 3 x65) w22 fun x66 =>
 pN Try.prog (oCall 120 [i19l15]) w22 fun x68 w23 =>
 ((Sem.run Try.prog (oLoad 3 x65) w23 = .ok (.value x66) w23) ∧ True) ∧ (pA Try.prog (oBin .mul 3 (.tmp 66) (.tmp 68) x66 x68) fun x69 =>
 pA Try.prog (oBin .add 3 (.tmp 62) (.tmp 69) v18l15 x69) fun x70 =>
 I16 x70 w23))
 (pN Try.prog (oBin .mul 3 (.const (.int .i64 2)) (.tmp 71) (.int .i64 2) v18l15) w21 fun x72 w24 =>
 pN Try.prog (oIdx 23 l13l6 i19l15) w24 fun x75 w25 =>
 pN Try.prog (oLoad 3 x75) w25 fun x76 w26 =>
 pN Try.prog (oBin .add 3 (.tmp 72) (.tmp 76) x72 x76) w26 fun x77 w27 =>
 I16 x77 w27)) ∧
 ∀ (_j16 : Env) (v18c16 : Value) (w28 : World), I16 v18c16 w28 →
 pN Try.prog (oBin .add 3 (.tmp 59) (.const (.int .i64 1)) i19l15 (.int .i64 1)) w28 fun x60 w29 =>
 (L15 v18c16 x60 w29 ∧ m15 v18c16 x60 w29 < m15 v18l15 i19l15 w20))
 (Q (.tuple #[v18l15, (.int .i64 0)]) w21)))
noncomputable def pithref09_Get.c : Code := match Try.f102.body with | some c => c | none => .skip
theorem pithref09_Get.eq [Pan] (x0 : Value) (x1 : Value) (x2 : Value) (x3 : Value) (x4 : Value) (w : World) (Q : Value → World → Prop) : cw Try.prog pithref09_Get.H pithref09_Get.c (endQ Try.prog Try.f102.results.toList Q) (argsE [x0, x1, x2, x3, x4]) w = pithref09_Get.F x0 x1 x2 x3 x4 w Q := by kernel_rfl
theorem pithref09_Get.calls [Pan] {x0 : Value} {x1 : Value} {x2 : Value} {x3 : Value} {x4 : Value} {w : World} {Q : Value → World → Prop} (h : pithref09_Get.F x0 x1 x2 x3 x4 w Q) : Calls Try.prog 102 #[x0, x1, x2, x3, x4] w (retP Q) :=
  calls_of_cw (H := pithref09_Get.H) (c := pithref09_Get.c) (args := [x0, x1, x2, x3, x4]) mixed Try.func102 (by kernel_rfl) (by kernel_rfl) (Nat.le_of_ble_eq_true (by kernel_rfl)) ((pithref09_Get.eq x0 x1 x2 x3 x4 w Q).mpr h)

/-! pithref09_refused: pith/pithref09.refused; temporaries: 0:s 1:at 2:n 3:v 4:s 5:at 6:n 7:v 9:there -/
def pithref09_refused.H : Hints := { cut := fun  | _ => none, loop := fun  | _ => ([], 0), order := fun  | _ => [] }
def pithref09_refused.F [Pan] (x0 : Value) (x1 : Value) (x2 : Value) (x3 : Value) (w : World) (Q : Value → World → Prop) : Prop :=
 pN Try.prog (oCall 119 [x0, x1, x2]) w fun x13 w1 =>
 pN Try.prog (oUn .not x13) w1 fun x15 w2 =>
 pGd (gB x15 false) (pN Try.prog (oMv x3) w2) w2 fun x17 w3 =>
 pGd (gB x15 false) (pN Try.prog (oBin .lss 3 (.tmp 17) (.const (.int .i64 0)) x17 (.int .i64 0)) w3) w3 fun x18 w4 =>
 pN Try.prog (oPick x15 (.bool true) x18) w4 fun x19 w5 =>
 pGd (gB x19 false) (pN Try.prog (oMv x3) w5) w5 fun x21 w6 =>
 pGd (gB x19 false) (pN Try.prog (oMv x2) w6) w6 fun x22 w7 =>
 pGd (gB x19 false) (pN Try.prog (oCall 120 [x22]) w7) w7 fun x23 w8 =>
 pGd (gB x19 false) (pN Try.prog (oBin .geq 3 (.tmp 21) (.tmp 23) x21 x23) w8) w8 fun x24 w9 =>
 pN Try.prog (oPick x19 (.bool true) x24) w9 fun x25 w10 =>
 Q x25 w10
noncomputable def pithref09_refused.c : Code := match Try.f114.body with | some c => c | none => .skip
theorem pithref09_refused.eq [Pan] (x0 : Value) (x1 : Value) (x2 : Value) (x3 : Value) (w : World) (Q : Value → World → Prop) : cw Try.prog pithref09_refused.H pithref09_refused.c (endQ Try.prog Try.f114.results.toList Q) (argsE [x0, x1, x2, x3]) w = pithref09_refused.F x0 x1 x2 x3 w Q := by kernel_rfl
theorem pithref09_refused.calls [Pan] {x0 : Value} {x1 : Value} {x2 : Value} {x3 : Value} {w : World} {Q : Value → World → Prop} (h : pithref09_refused.F x0 x1 x2 x3 w Q) : Calls Try.prog 114 #[x0, x1, x2, x3] w (retP Q) :=
  calls_of_cw (H := pithref09_refused.H) (c := pithref09_refused.c) (args := [x0, x1, x2, x3]) mixed Try.func114 (by kernel_rfl) (by kernel_rfl) (Nat.le_of_ble_eq_true (by kernel_rfl)) ((pithref09_refused.eq x0 x1 x2 x3 w Q).mpr h)

/-! pithref09_Way: pith/pithref09.Way; temporaries: 0:at 1:l 2:at 3:l 5:w 6:m 7:i -/
def pithref09_Way.H : Hints := { cut := fun  | _ => none, loop := fun | 4 => ([5, 6, 7], 4294967264) | _ => ([], 0), order := fun  | _ => [] }
def pithref09_Way.F [Pan] (x0 : Value) (x1 : Value) (w : World) (Q : Value → World → Prop) : Prop :=
 ∃ (L4 : Value → Value → Value → World → Prop) (m4 : Value → Value → Value → World → Nat),
 L4 (.slice none 0 0) (.int .i64 1) (.int .i64 0) w ∧
 ∀ (_k4 : Env) (w5l4 : Value) (m6l4 : Value) (i7l4 : Value) (w1 : World), L4 w5l4 m6l4 i7l4 w1 →
 pN Try.prog (oBi .len #[23] 3 [false] [x1]) w1 fun x10 w2 =>
 pN Try.prog (oBin .lss 3 (.tmp 8) (.tmp 10) i7l4 x10) w2 fun x11 w3 =>
 pIf x11
 (pN Try.prog (oBin .add 3 (.tmp 15) (.tmp 16) x0 m6l4) w3 fun x17 w4 =>
 pN Try.prog (oIdx 23 x1 i7l4) w4 fun x20 w5 =>
 pN Try.prog (oLoad 3 x20) w5 fun x21 w6 =>
 pN Try.prog (oBuild 175 [(0, x17), (1, x21)]) w6 fun x22 w7 =>
 pN Try.prog (oBs 171 1 [(0, x22)]) w7 fun x23 w8 =>
 pN Try.prog (oBi .append #[171, 171] 171 [false, false] [w5l4, x23]) w8 fun x24 w9 =>
 pN Try.prog (oBin .mul 3 (.const (.int .i64 2)) (.tmp 25) (.int .i64 2) m6l4) w9 fun x26 w10 =>
 pN Try.prog (oIdx 23 x1 i7l4) w10 fun x29 w11 =>
 pN Try.prog (oLoad 3 x29) w11 fun x30 w12 =>
 pN Try.prog (oBin .add 3 (.tmp 26) (.tmp 30) x26 x30) w12 fun x31 w13 =>
 pN Try.prog (oBin .add 3 (.tmp 12) (.const (.int .i64 1)) i7l4 (.int .i64 1)) w13 fun x13 w14 =>
 (L4 x24 x31 x13 w14 ∧ m4 x24 x31 x13 w14 < m4 w5l4 m6l4 i7l4 w1))
 (Q w5l4 w3)
noncomputable def pithref09_Way.c : Code := match Try.f115.body with | some c => c | none => .skip
theorem pithref09_Way.eq [Pan] (x0 : Value) (x1 : Value) (w : World) (Q : Value → World → Prop) : cw Try.prog pithref09_Way.H pithref09_Way.c (endQ Try.prog Try.f115.results.toList Q) (argsE [x0, x1]) w = pithref09_Way.F x0 x1 w Q := by kernel_rfl
theorem pithref09_Way.calls [Pan] {x0 : Value} {x1 : Value} {w : World} {Q : Value → World → Prop} (h : pithref09_Way.F x0 x1 w Q) : Calls Try.prog 115 #[x0, x1] w (retP Q) :=
  calls_of_cw (H := pithref09_Way.H) (c := pithref09_Way.c) (args := [x0, x1]) mixed Try.func115 (by kernel_rfl) (by kernel_rfl) (Nat.le_of_ble_eq_true (by kernel_rfl)) ((pithref09_Way.eq x0 x1 w Q).mpr h)

/-! pithref09_bits: pith/pithref09.bits; temporaries: 0:n 1:v 2:back 3:n 4:v 5:back 7:l 8:i 9:k -/
def pithref09_bits.H : Hints := { cut := fun | 4 => some ([7], 536838784) | 8 => some ([9], 1573376) | _ => none, loop := fun | 3 => ([7, 8], 536870784) | _ => ([], 0), order := fun  | _ => [] }
def pithref09_bits.F [Pan] (x0 : Value) (x1 : Value) (x2 : Value) (w : World) (Q : Value → World → Prop) : Prop :=
 ∃ (L3 : Value → Value → World → Prop) (m3 : Value → Value → World → Nat),
 L3 (.slice none 0 0) (.int .i64 0) w ∧
 ∀ (_k3 : Env) (l7l3 : Value) (i8l3 : Value) (w1 : World), L3 l7l3 i8l3 w1 →
 pN Try.prog (oBin .lss 3 (.tmp 10) (.tmp 11) i8l3 x0) w1 fun x12 w2 =>
 pIf x12
 (∃ I4 : Value → World → Prop,
 (pN Try.prog (oBin .sub 3 (.tmp 15) (.const (.int .i64 1)) x0 (.int .i64 1)) w2 fun x16 w3 =>
 pN Try.prog (oBin .sub 3 (.tmp 16) (.tmp 17) x16 i8l3) w3 fun x18 w4 =>
 ∃ I8 : Value → World → Prop,
 (pIf x2
 (I8 i8l3 w4)
 (I8 x18 w4)) ∧
 ∀ (_j8 : Env) (k9c8 : Value) (w5 : World), I8 k9c8 w5 →
 pN Try.prog (oCall 120 [k9c8]) w5 fun x24 w6 =>
 pN Try.prog (oBin .quo 3 (.tmp 22) (.tmp 24) x1 x24) w6 fun x25 w7 =>
 pN Try.prog (oBin .rem 3 (.tmp 25) (.const (.int .i64 2)) x25 (.int .i64 2)) w7 fun x26 w8 =>
 pN Try.prog (oBs 23 1 [(0, x26)]) w8 fun x27 w9 =>
 pN Try.prog (oBi .append #[23, 23] 23 [false, false] [l7l3, x27]) w9 fun x28 w10 =>
 I4 x28 w10) ∧
 ∀ (_j4 : Env) (l7c4 : Value) (w11 : World), I4 l7c4 w11 →
 pN Try.prog (oBin .add 3 (.tmp 13) (.const (.int .i64 1)) i8l3 (.int .i64 1)) w11 fun x14 w12 =>
 (L3 l7c4 x14 w12 ∧ m3 l7c4 x14 w12 < m3 l7l3 i8l3 w1))
 (Q l7l3 w2)
noncomputable def pithref09_bits.c : Code := match Try.f116.body with | some c => c | none => .skip
theorem pithref09_bits.eq [Pan] (x0 : Value) (x1 : Value) (x2 : Value) (w : World) (Q : Value → World → Prop) : cw Try.prog pithref09_bits.H pithref09_bits.c (endQ Try.prog Try.f116.results.toList Q) (argsE [x0, x1, x2]) w = pithref09_bits.F x0 x1 x2 w Q := by kernel_rfl
theorem pithref09_bits.calls [Pan] {x0 : Value} {x1 : Value} {x2 : Value} {w : World} {Q : Value → World → Prop} (h : pithref09_bits.F x0 x1 x2 w Q) : Calls Try.prog 116 #[x0, x1, x2] w (retP Q) :=
  calls_of_cw (H := pithref09_bits.H) (c := pithref09_bits.c) (args := [x0, x1, x2]) mixed Try.func116 (by kernel_rfl) (by kernel_rfl) (Nat.le_of_ble_eq_true (by kernel_rfl)) ((pithref09_bits.eq x0 x1 x2 w Q).mpr h)

/-! pithref09_There: pith/pithref09.There; temporaries: 0:s 1:at 2:n 3:s 4:at 5:n -/
def pithref09_There.H : Hints := { cut := fun  | _ => none, loop := fun  | _ => ([], 0), order := fun | 1 => [(0, 0), (1, 1), (2, 3), (3, 7), (4, 15), (5, 31), (6, 63), (7, 127), (8, 255), (9, 511), (10, 1023), (11, 2047), (12, 4095), (13, 8191), (14, 16383), (15, 32767), (16, 65535), (17, 131071), (18, 262143), (19, 524287), (20, 1048575), (22, 2097151), (23, 6291455), (24, 14680063), (25, 31457279), (26, 65011711), (27, 132120575), (28, 266338303), (21, 534773759), (29, 536870911), (30, 1073741823), (31, 2147483647)] | _ => [] }
def pithref09_There.F [Pan] (x0 : Value) (x1 : Value) (x2 : Value) (w : World) (Q : Value → World → Prop) : Prop :=
 pDr w fun w1 =>
 pA Try.prog (oBin .geq 3 (.tmp 7) (.const (.int .i64 0)) x2 (.int .i64 0)) fun x8 =>
 gA (gB x8 true) (pA Try.prog (oMv x2)) fun x10 =>
 gA (gB x8 true) (pA Try.prog (oBin .leq 3 (.tmp 10) (.const (.int .i64 16)) x10 (.int .i64 16))) fun x11 =>
 pA Try.prog (oPick x8 x11 (.bool false)) fun x12 =>
 gA (gB x12 true) (pA Try.prog (oMv x1)) fun x14 =>
 gA (gB x12 true) (pA Try.prog (oBin .geq 3 (.tmp 14) (.const (.int .i64 0)) x14 (.int .i64 0))) fun x15 =>
 pA Try.prog (oPick x12 x15 (.bool false)) fun x16 =>
 gA (gB x16 true) (pA Try.prog (oMv x1)) fun x18 =>
 gA (gB x16 true) (pA Try.prog (oMv x0)) fun x19 =>
 gA (gB x16 true) (pA Try.prog (oNil x19)) fun x20 =>
 gA (gB x16 true) (pA Try.prog (oFld 145 x20 1)) fun x21 =>
 gA (gB x16 true) (pL Try.prog (oLoad 23 x21) w1) fun x22 =>
 gA (gB x16 true) (pA Try.prog (oBi .len #[23] 3 [false] [x22])) fun x23 =>
 gA (gB x16 true) (pA Try.prog (oBin .leq 3 (.tmp 18) (.tmp 23) x18 x23)) fun x24 =>
 pA Try.prog (oPick x16 x24 (.bool false)) fun x25 =>
 gA (gB x25 true) (pA Try.prog (oMv x2)) fun x27 =>
 gA (gB x25 true) (pA Try.prog (oMv x0)) fun x29 =>
 gA (gB x25 true) (pA Try.prog (oNil x29)) fun x30 =>
 gA (gB x25 true) (pA Try.prog (oFld 145 x30 1)) fun x31 =>
 gA (gB x25 true) (pL Try.prog (oLoad 23 x31) w1) fun x32 =>
 gA (gB x25 true) (pA Try.prog (oBi .len #[23] 3 [false] [x32])) fun x33 =>
 gA (gB x25 true) (pA Try.prog (oMv x1)) fun x34 =>
 gA (gB x25 true) (pA Try.prog (oBin .sub 3 (.tmp 33) (.tmp 34) x33 x34)) fun x35 =>
 pGd (gB x25 true) (pN Try.prog (oCall 120 [x27]) w1) w1 fun x28 w2 =>
 ((((gB x25 true) = true → Sem.run Try.prog (oLoad 23 x31) w2 = .ok (.value x32) w2)) ∧ True) ∧ (gA (gB x25 true) (pA Try.prog (oBin .leq 3 (.tmp 28) (.tmp 35) x28 x35)) fun x36 =>
 pA Try.prog (oPick x25 x36 (.bool false)) fun x37 =>
 Q x37 w2)
noncomputable def pithref09_There.c : Code := match Try.f119.body with | some c => c | none => .skip
theorem pithref09_There.eq [Pan] (x0 : Value) (x1 : Value) (x2 : Value) (w : World) (Q : Value → World → Prop) : cw Try.prog pithref09_There.H pithref09_There.c (endQ Try.prog Try.f119.results.toList Q) (argsE [x0, x1, x2]) w = pithref09_There.F x0 x1 x2 w Q := by kernel_rfl
theorem pithref09_There.calls [Pan] {x0 : Value} {x1 : Value} {x2 : Value} {w : World} {Q : Value → World → Prop} (h : pithref09_There.F x0 x1 x2 w Q) : Calls Try.prog 119 #[x0, x1, x2] w (retP Q) :=
  calls_of_cw (H := pithref09_There.H) (c := pithref09_There.c) (args := [x0, x1, x2]) mixed Try.func119 (by kernel_rfl) (by kernel_rfl) (Nat.le_of_ble_eq_true (by kernel_rfl)) ((pithref09_There.eq x0 x1 x2 w Q).mpr h)

/-! pithref09_two: pith/pithref09.two; temporaries: 0:n 1:n 3:v 4:i -/
def pithref09_two.H : Hints := { cut := fun  | _ => none, loop := fun | 3 => ([3, 4], 4088) | _ => ([], 0), order := fun  | _ => [] }
def pithref09_two.F [Pan] (x0 : Value) (w : World) (Q : Value → World → Prop) : Prop :=
 ∃ (L3 : Value → Value → World → Prop) (m3 : Value → Value → World → Nat),
 L3 (.int .i64 1) (.int .i64 0) w ∧
 ∀ (_k3 : Env) (v3l3 : Value) (i4l3 : Value) (w1 : World), L3 v3l3 i4l3 w1 →
 pN Try.prog (oBin .lss 3 (.tmp 5) (.tmp 6) i4l3 x0) w1 fun x7 w2 =>
 pIf x7
 (pN Try.prog (oBin .mul 3 (.const (.int .i64 2)) (.tmp 10) (.int .i64 2) v3l3) w2 fun x11 w3 =>
 pN Try.prog (oBin .add 3 (.tmp 8) (.const (.int .i64 1)) i4l3 (.int .i64 1)) w3 fun x9 w4 =>
 (L3 x11 x9 w4 ∧ m3 x11 x9 w4 < m3 v3l3 i4l3 w1))
 (Q v3l3 w2)
noncomputable def pithref09_two.c : Code := match Try.f120.body with | some c => c | none => .skip
theorem pithref09_two.eq [Pan] (x0 : Value) (w : World) (Q : Value → World → Prop) : cw Try.prog pithref09_two.H pithref09_two.c (endQ Try.prog Try.f120.results.toList Q) (argsE [x0]) w = pithref09_two.F x0 w Q := by kernel_rfl
theorem pithref09_two.calls [Pan] {x0 : Value} {w : World} {Q : Value → World → Prop} (h : pithref09_two.F x0 w Q) : Calls Try.prog 120 #[x0] w (retP Q) :=
  calls_of_cw (H := pithref09_two.H) (c := pithref09_two.c) (args := [x0]) mixed Try.func120 (by kernel_rfl) (by kernel_rfl) (Nat.le_of_ble_eq_true (by kernel_rfl)) ((pithref09_two.eq x0 w Q).mpr h)

end Go.Proofs.Ytoejaggkedlfmaa

namespace Go.Proofs.Ytoejaggkedlfmaa
open Go
set_option linter.unusedSimpArgs false
set_option linter.unnecessarySimpa false
set_option linter.unusedSectionVars false
set_option linter.unusedVariables false
set_option maxRecDepth 100000

/-! pithref07_New: pith/pithref07.New; temporaries:  -/
def pithref07_New.H : Hints := { cut := fun  | _ => none, loop := fun  | _ => ([], 0), order := fun  | _ => [] }
def pithref07_New.F [Pan]  (w : World) (Q : Value → World → Prop) : Prop :=
 pN Try.prog (oMk 29 (.int .i64 5) (.int .i64 5)) w fun x1 w1 =>
 pN Try.prog (oBuild 139 [(0, x1), (1, (.int .u32 4294967295))]) w1 fun x2 w2 =>
 pN Try.prog (oBox 139 x2) w2 fun x3 w3 =>
 Q x3 w3
noncomputable def pithref07_New.c : Code := match Try.f30.body with | some c => c | none => .skip
theorem pithref07_New.eq [Pan]  (w : World) (Q : Value → World → Prop) : cw Try.prog pithref07_New.H pithref07_New.c (endQ Try.prog Try.f30.results.toList Q) (argsE []) w = pithref07_New.F  w Q := by kernel_rfl
theorem pithref07_New.calls [Pan]  {w : World} {Q : Value → World → Prop} (h : pithref07_New.F  w Q) : Calls Try.prog 30 #[] w (retP Q) :=
  calls_of_cw (H := pithref07_New.H) (c := pithref07_New.c) (args := []) mixed Try.func30 (by kernel_rfl) (by kernel_rfl) (Nat.le_of_ble_eq_true (by kernel_rfl)) ((pithref07_New.eq  w Q).mpr h)

/-! pithref07_Encoder_Bit: (*pith/pithref07.Encoder).Bit; temporaries: 0:e 1:s 2:i 3:bit 4:e 5:s 6:i 7:bit 9:p 10:f -/
def pithref07_Encoder_Bit.H : Hints := { cut := fun  | _ => none, loop := fun  | _ => ([], 0), order := fun  | _ => [] }
def pithref07_Encoder_Bit.F [Pan] (x0 : Value) (x1 : Value) (x2 : Value) (x3 : Value) (w : World) (Q : Value → World → Prop) : Prop :=
 pN Try.prog (oCall 79 [x1, x2]) w fun x14 w1 =>
 pN Try.prog (oExt x14 0) w1 fun x15 w2 =>
 pN Try.prog (oExt x14 1) w2 fun x16 w3 =>
 pN Try.prog (oBin .neq 3 (.tmp 17) (.const (.int .i64 0)) x16 (.int .i64 0)) w3 fun x18 w4 =>
 pIf x18
 (Q (.int .i64 7) w4)
 (pN Try.prog (oNil x0) w4 fun x21 w5 =>
 pN Try.prog (oFld 139 x21 1) w5 fun x22 w6 =>
 pN Try.prog (oLoad 26 x22) w6 fun x23 w7 =>
 pN Try.prog (oCall 81 [x23, x15]) w7 fun x25 w8 =>
 pN Try.prog (oCall 80 [x0, x25, x3]) w8 fun _ w9 =>
 pN Try.prog (oCall 82 [x1, x2, x3]) w9 fun _ w10 =>
 Q (.int .i64 0) w10)
noncomputable def pithref07_Encoder_Bit.c : Code := match Try.f31.body with | some c => c | none => .skip
theorem pithref07_Encoder_Bit.eq [Pan] (x0 : Value) (x1 : Value) (x2 : Value) (x3 : Value) (w : World) (Q : Value → World → Prop) : cw Try.prog pithref07_Encoder_Bit.H pithref07_Encoder_Bit.c (endQ Try.prog Try.f31.results.toList Q) (argsE [x0, x1, x2, x3]) w = pithref07_Encoder_Bit.F x0 x1 x2 x3 w Q := by kernel_rfl
theorem pithref07_Encoder_Bit.calls [Pan] {x0 : Value} {x1 : Value} {x2 : Value} {x3 : Value} {w : World} {Q : Value → World → Prop} (h : pithref07_Encoder_Bit.F x0 x1 x2 x3 w Q) : Calls Try.prog 31 #[x0, x1, x2, x3] w (retP Q) :=
  calls_of_cw (H := pithref07_Encoder_Bit.H) (c := pithref07_Encoder_Bit.c) (args := [x0, x1, x2, x3]) mixed Try.func31 (by kernel_rfl) (by kernel_rfl) (Nat.le_of_ble_eq_true (by kernel_rfl)) ((pithref07_Encoder_Bit.eq x0 x1 x2 x3 w Q).mpr h)

/-! pithref07_Encoder_Direct: (*pith/pithref07.Encoder).Direct; temporaries: 0:e 1:v 2:n 3:e 4:v 5:n 7:i -/
def pithref07_Encoder_Direct.H : Hints := { cut := fun | 5 => some ([], 2199022206976) | 9 => some ([], 549487378432) | _ => none, loop := fun | 4 => ([7], 2199023190144) | _ => ([], 0), order := fun  | _ => [] }
def pithref07_Encoder_Direct.F [Pan] (x0 : Value) (x1 : Value) (x2 : Value) (w : World) (Q : Value → World → Prop) : Prop :=
 pN Try.prog (oBin .lss 3 (.tmp 8) (.const (.int .i64 0)) x2 (.int .i64 0)) w fun x9 w1 =>
 pGd (gB x9 false) (pN Try.prog (oMv x2) w1) w1 fun x11 w2 =>
 pGd (gB x9 false) (pN Try.prog (oBin .gtr 3 (.tmp 11) (.const (.int .i64 32)) x11 (.int .i64 32)) w2) w2 fun x12 w3 =>
 pN Try.prog (oPick x9 (.bool true) x12) w3 fun x13 w4 =>
 pIf x13
 (Q (.int .i64 7) w4)
 (pN Try.prog (oBin .sub 3 (.tmp 14) (.const (.int .i64 1)) x2 (.int .i64 1)) w4 fun x15 w5 =>
 ∃ (L4 : Value → World → Prop) (m4 : Value → World → Nat),
 L4 x15 w5 ∧
 ∀ (_k4 : Env) (i7l4 : Value) (w6 : World), L4 i7l4 w6 →
 pN Try.prog (oBin .geq 3 (.tmp 16) (.const (.int .i64 0)) i7l4 (.int .i64 0)) w6 fun x17 w7 =>
 pIf x17
 (∃ I5 : World → Prop,
 (pN Try.prog (oNil x0) w7 fun x22 w8 =>
 pN Try.prog (oFld 139 x22 1) w8 fun x23 w9 =>
 pN Try.prog (oLoad 26 x23) w9 fun x24 w10 =>
 pN Try.prog (oBin .quo 26 (.tmp 24) (.const (.int .u32 2)) x24 (.int .u32 2)) w10 fun x25 w11 =>
 pN Try.prog (oNil x0) w11 fun x26 w12 =>
 pN Try.prog (oFld 139 x26 1) w12 fun x27 w13 =>
 pN Try.prog (oStore 26 x27 x25) w13 fun _ w14 =>
 ∃ I9 : World → Prop,
 (pN Try.prog (oBin .shr 26 (.tmp 28) (.tmp 29) x1 i7l4) w14 fun x30 w15 =>
 pN Try.prog (oBin .rem 26 (.tmp 30) (.const (.int .u32 2)) x30 (.int .u32 2)) w15 fun x31 w16 =>
 pN Try.prog (oBin .eql 26 (.tmp 31) (.const (.int .u32 1)) x31 (.int .u32 1)) w16 fun x32 w17 =>
 pIf x32
 (pN Try.prog (oNil x0) w17 fun x35 w18 =>
 pN Try.prog (oFld 139 x35 1) w18 fun x36 w19 =>
 pN Try.prog (oLoad 26 x36) w19 fun x37 w20 =>
 pN Try.prog (oCall 83 [x0, x37]) w20 fun _ w21 =>
 I9 w21)
 (I9 w17)) ∧
 ∀ (_j9 : Env) (w22 : World), I9 w22 →
 pN Try.prog (oCall 84 [x0]) w22 fun _ w23 =>
 I5 w23) ∧
 ∀ (_j5 : Env) (w24 : World), I5 w24 →
 pN Try.prog (oBin .sub 3 (.tmp 18) (.const (.int .i64 1)) i7l4 (.int .i64 1)) w24 fun x19 w25 =>
 (L4 x19 w25 ∧ m4 x19 w25 < m4 i7l4 w6))
 (Q (.int .i64 0) w7))
noncomputable def pithref07_Encoder_Direct.c : Code := match Try.f32.body with | some c => c | none => .skip
theorem pithref07_Encoder_Direct.eq [Pan] (x0 : Value) (x1 : Value) (x2 : Value) (w : World) (Q : Value → World → Prop) : cw Try.prog pithref07_Encoder_Direct.H pithref07_Encoder_Direct.c (endQ Try.prog Try.f32.results.toList Q) (argsE [x0, x1, x2]) w = pithref07_Encoder_Direct.F x0 x1 x2 w Q := by kernel_rfl
theorem pithref07_Encoder_Direct.calls [Pan] {x0 : Value} {x1 : Value} {x2 : Value} {w : World} {Q : Value → World → Prop} (h : pithref07_Encoder_Direct.F x0 x1 x2 w Q) : Calls Try.prog 32 #[x0, x1, x2] w (retP Q) :=
  calls_of_cw (H := pithref07_Encoder_Direct.H) (c := pithref07_Encoder_Direct.c) (args := [x0, x1, x2]) mixed Try.func32 (by kernel_rfl) (by kernel_rfl) (Nat.le_of_ble_eq_true (by kernel_rfl)) ((pithref07_Encoder_Direct.eq x0 x1 x2 w Q).mpr h)

/-! pithref07_Encoder_Size: (*pith/pithref07.Encoder).Size; temporaries: 0:e 1:e -/
def pithref07_Encoder_Size.H : Hints := { cut := fun  | _ => none, loop := fun  | _ => ([], 0), order := fun  | _ => [] }
def pithref07_Encoder_Size.F [Pan] (x0 : Value) (w : World) (Q : Value → World → Prop) : Prop :=
 pN Try.prog (oNil x0) w fun x4 w1 =>
 pN Try.prog (oFld 139 x4 2) w1 fun x5 w2 =>
 pN Try.prog (oLoad 3 x5) w2 fun x6 w3 =>
 pN Try.prog (oBin .add 3 (.tmp 6) (.const (.int .i64 5)) x6 (.int .i64 5)) w3 fun x7 w4 =>
 Q x7 w4
noncomputable def pithref07_Encoder_Size.c : Code := match Try.f33.body with | some c => c | none => .skip
theorem pithref07_Encoder_Size.eq [Pan] (x0 : Value) (w : World) (Q : Value → World → Prop) : cw Try.prog pithref07_Encoder_Size.H pithref07_Encoder_Size.c (endQ Try.prog Try.f33.results.toList Q) (argsE [x0]) w = pithref07_Encoder_Size.F x0 w Q := by kernel_rfl
theorem pithref07_Encoder_Size.calls [Pan] {x0 : Value} {w : World} {Q : Value → World → Prop} (h : pithref07_Encoder_Size.F x0 w Q) : Calls Try.prog 33 #[x0] w (retP Q) :=
  calls_of_cw (H := pithref07_Encoder_Size.H) (c := pithref07_Encoder_Size.c) (args := [x0]) mixed Try.func33 (by kernel_rfl) (by kernel_rfl) (Nat.le_of_ble_eq_true (by kernel_rfl)) ((pithref07_Encoder_Size.eq x0 w Q).mpr h)

/-! pithref07_Encoder_Bytes: (*pith/pithref07.Encoder).Bytes; temporaries: 0:e 1:e 3:b -/
def pithref07_Encoder_Bytes.H : Hints := { cut := fun  | _ => none, loop := fun  | _ => ([], 0), order := fun  | _ => [] }
def pithref07_Encoder_Bytes.F [Pan] (x0 : Value) (w : World) (Q : Value → World → Prop) : Prop :=
 pN Try.prog (oNil x0) w fun x6 w1 =>
 pN Try.prog (oFld 139 x6 0) w1 fun x7 w2 =>
 pN Try.prog (oLoad 29 x7) w2 fun x8 w3 =>
 pN Try.prog (oBi .append #[29, 29] 29 [false, false] [(.slice none 0 0), x8]) w3 fun x9 w4 =>
 Q x9 w4
noncomputable def pithref07_Encoder_Bytes.c : Code := match Try.f34.body with | some c => c | none => .skip
theorem pithref07_Encoder_Bytes.eq [Pan] (x0 : Value) (w : World) (Q : Value → World → Prop) : cw Try.prog pithref07_Encoder_Bytes.H pithref07_Encoder_Bytes.c (endQ Try.prog Try.f34.results.toList Q) (argsE [x0]) w = pithref07_Encoder_Bytes.F x0 w Q := by kernel_rfl
theorem pithref07_Encoder_Bytes.calls [Pan] {x0 : Value} {w : World} {Q : Value → World → Prop} (h : pithref07_Encoder_Bytes.F x0 w Q) : Calls Try.prog 34 #[x0] w (retP Q) :=
  calls_of_cw (H := pithref07_Encoder_Bytes.H) (c := pithref07_Encoder_Bytes.c) (args := [x0]) mixed Try.func34 (by kernel_rfl) (by kernel_rfl) (Nat.le_of_ble_eq_true (by kernel_rfl)) ((pithref07_Encoder_Bytes.eq x0 w Q).mpr h)

/-! pithref07_Encoder_Fork: (*pith/pithref07.Encoder).Fork; temporaries: 0:e 1:e -/
def pithref07_Encoder_Fork.H : Hints := { cut := fun  | _ => none, loop := fun  | _ => ([], 0), order := fun | 1 => [(0, 0), (2, 1), (3, 5), (4, 13), (5, 29), (6, 61), (7, 125), (8, 253), (9, 509), (1, 1021), (10, 1023), (11, 2047), (12, 4095)] | _ => [] }
def pithref07_Encoder_Fork.F [Pan] (x0 : Value) (w : World) (Q : Value → World → Prop) : Prop :=
 pDr w fun w1 =>
 pA Try.prog (oNil x0) fun x6 =>
 pA Try.prog (oFld 139 x6 1) fun x7 =>
 pL Try.prog (oLoad 26 x7) w1 fun x8 =>
 pA Try.prog (oNil x0) fun x10 =>
 pA Try.prog (oFld 139 x10 2) fun x11 =>
 pL Try.prog (oLoad 3 x11) w1 fun x12 =>
 pN Try.prog (oCall 34 [x0]) w1 fun x4 w2 =>
 ((Sem.run Try.prog (oLoad 3 x11) w2 = .ok (.value x12) w2) ∧ (Sem.run Try.prog (oLoad 26 x7) w2 = .ok (.value x8) w2) ∧ True) ∧ (pN Try.prog (oBuild 139 [(0, x4), (1, x8), (2, x12)]) w2 fun x13 w3 =>
 (True) ∧ (pN Try.prog (oBox 139 x13) w3 fun x14 w4 =>
 (True) ∧ (Q x14 w4)))
noncomputable def pithref07_Encoder_Fork.c : Code := match Try.f37.body with | some c => c | none => .skip
theorem pithref07_Encoder_Fork.eq [Pan] (x0 : Value) (w : World) (Q : Value → World → Prop) : cw Try.prog pithref07_Encoder_Fork.H pithref07_Encoder_Fork.c (endQ Try.prog Try.f37.results.toList Q) (argsE [x0]) w = pithref07_Encoder_Fork.F x0 w Q := by kernel_rfl
theorem pithref07_Encoder_Fork.calls [Pan] {x0 : Value} {w : World} {Q : Value → World → Prop} (h : pithref07_Encoder_Fork.F x0 w Q) : Calls Try.prog 37 #[x0] w (retP Q) :=
  calls_of_cw (H := pithref07_Encoder_Fork.H) (c := pithref07_Encoder_Fork.c) (args := [x0]) mixed Try.func37 (by kernel_rfl) (by kernel_rfl) (Nat.le_of_ble_eq_true (by kernel_rfl)) ((pithref07_Encoder_Fork.eq x0 w Q).mpr h)

/-! pithref07_Encoder_cut: (*pith/pithref07.Encoder).cut; temporaries: 0:e 1:b 2:bit 3:e 4:b 5:bit -/
def pithref07_Encoder_cut.H : Hints := { cut := fun | 4 => some ([], 16777152) | _ => none, loop := fun  | _ => ([], 0), order := fun  | _ => [] }
def pithref07_Encoder_cut.F [Pan] (x0 : Value) (x1 : Value) (x2 : Value) (w : World) (Q : Value → World → Prop) : Prop :=
 ∃ I4 : World → Prop,
 (pN Try.prog (oBin .eql 3 (.tmp 6) (.const (.int .i64 0)) x2 (.int .i64 0)) w fun x7 w1 =>
 pIf x7
 (pN Try.prog (oNil x0) w1 fun x10 w2 =>
 pN Try.prog (oFld 139 x10 1) w2 fun x11 w3 =>
 pN Try.prog (oStore 26 x11 x1) w3 fun _ w4 =>
 I4 w4)
 (pN Try.prog (oCall 83 [x0, x1]) w1 fun _ w5 =>
 pN Try.prog (oNil x0) w5 fun x17 w6 =>
 pN Try.prog (oFld 139 x17 1) w6 fun x18 w7 =>
 pN Try.prog (oLoad 26 x18) w7 fun x19 w8 =>
 pN Try.prog (oBin .sub 26 (.tmp 19) (.tmp 20) x19 x1) w8 fun x21 w9 =>
 pN Try.prog (oNil x0) w9 fun x22 w10 =>
 pN Try.prog (oFld 139 x22 1) w10 fun x23 w11 =>
 pN Try.prog (oStore 26 x23 x21) w11 fun _ w12 =>
 I4 w12)) ∧
 ∀ (_j4 : Env) (w13 : World), I4 w13 →
 pN Try.prog (oCall 84 [x0]) w13 fun _ w14 =>
 Q (.tuple #[]) w14
noncomputable def pithref07_Encoder_cut.c : Code := match Try.f80.body with | some c => c | none => .skip
theorem pithref07_Encoder_cut.eq [Pan] (x0 : Value) (x1 : Value) (x2 : Value) (w : World) (Q : Value → World → Prop) : cw Try.prog pithref07_Encoder_cut.H pithref07_Encoder_cut.c (endQ Try.prog Try.f80.results.toList Q) (argsE [x0, x1, x2]) w = pithref07_Encoder_cut.F x0 x1 x2 w Q := by kernel_rfl
theorem pithref07_Encoder_cut.calls [Pan] {x0 : Value} {x1 : Value} {x2 : Value} {w : World} {Q : Value → World → Prop} (h : pithref07_Encoder_cut.F x0 x1 x2 w Q) : Calls Try.prog 80 #[x0, x1, x2] w (retP Q) :=
  calls_of_cw (H := pithref07_Encoder_cut.H) (c := pithref07_Encoder_cut.c) (args := [x0, x1, x2]) mixed Try.func80 (by kernel_rfl) (by kernel_rfl) (Nat.le_of_ble_eq_true (by kernel_rfl)) ((pithref07_Encoder_cut.eq x0 x1 x2 w Q).mpr h)

/-! pithref07_Encoder_adds: (*pith/pithref07.Encoder).adds; temporaries: 0:e 1:v 2:e 3:v 4:c 5:i -/
def pithref07_Encoder_adds.H : Hints := { cut := fun  | _ => none, loop := fun | 2 => ([4, 5], 549755797552) | _ => ([], 0), order := fun  | _ => [] }
def pithref07_Encoder_adds.F [Pan] (x0 : Value) (x1 : Value) (w : World) (Q : Value → World → Prop) : Prop :=
 pN Try.prog (oConv 26 131 x1) w fun x7 w1 =>
 pN Try.prog (oNil x0) w1 fun x9 w2 =>
 pN Try.prog (oFld 139 x9 0) w2 fun x10 w3 =>
 pN Try.prog (oLoad 29 x10) w3 fun x11 w4 =>
 pN Try.prog (oBi .len #[29] 3 [false] [x11]) w4 fun x12 w5 =>
 pN Try.prog (oBin .sub 3 (.tmp 12) (.const (.int .i64 1)) x12 (.int .i64 1)) w5 fun x13 w6 =>
 ∃ (L2 : Value → Value → World → Prop) (m2 : Value → Value → World → Nat),
 L2 x7 x13 w6 ∧
 ∀ (_k2 : Env) (c4l2 : Value) (i5l2 : Value) (w7 : World), L2 c4l2 i5l2 w7 →
 pN Try.prog (oBin .geq 3 (.tmp 14) (.const (.int .i64 0)) i5l2 (.int .i64 0)) w7 fun x15 w8 =>
 pIf x15
 (pN Try.prog (oNil x0) w8 fun x20 w9 =>
 pN Try.prog (oFld 139 x20 0) w9 fun x21 w10 =>
 pN Try.prog (oLoad 29 x21) w10 fun x22 w11 =>
 pN Try.prog (oIdx 29 x22 i5l2) w11 fun x24 w12 =>
 pN Try.prog (oLoad 5 x24) w12 fun x25 w13 =>
 pN Try.prog (oConv 5 131 x25) w13 fun x26 w14 =>
 pN Try.prog (oBin .add 131 (.tmp 18) (.tmp 26) c4l2 x26) w14 fun x27 w15 =>
 pN Try.prog (oNil x0) w15 fun x29 w16 =>
 pN Try.prog (oFld 139 x29 0) w16 fun x30 w17 =>
 pN Try.prog (oLoad 29 x30) w17 fun x31 w18 =>
 pN Try.prog (oBin .rem 131 (.tmp 33) (.const (.int .u64 256)) x27 (.int .u64 256)) w18 fun x34 w19 =>
 pN Try.prog (oConv 131 5 x34) w19 fun x35 w20 =>
 pN Try.prog (oIdx 29 x31 i5l2) w20 fun x36 w21 =>
 pN Try.prog (oStore 5 x36 x35) w21 fun _ w22 =>
 pN Try.prog (oBin .quo 131 (.tmp 37) (.const (.int .u64 256)) x27 (.int .u64 256)) w22 fun x38 w23 =>
 pN Try.prog (oBin .sub 3 (.tmp 16) (.const (.int .i64 1)) i5l2 (.int .i64 1)) w23 fun x17 w24 =>
 (L2 x38 x17 w24 ∧ m2 x38 x17 w24 < m2 c4l2 i5l2 w7))
 (Q (.tuple #[]) w8)
noncomputable def pithref07_Encoder_adds.c : Code := match Try.f83.body with | some c => c | none => .skip
theorem pithref07_Encoder_adds.eq [Pan] (x0 : Value) (x1 : Value) (w : World) (Q : Value → World → Prop) : cw Try.prog pithref07_Encoder_adds.H pithref07_Encoder_adds.c (endQ Try.prog Try.f83.results.toList Q) (argsE [x0, x1]) w = pithref07_Encoder_adds.F x0 x1 w Q := by kernel_rfl
theorem pithref07_Encoder_adds.calls [Pan] {x0 : Value} {x1 : Value} {w : World} {Q : Value → World → Prop} (h : pithref07_Encoder_adds.F x0 x1 w Q) : Calls Try.prog 83 #[x0, x1] w (retP Q) :=
  calls_of_cw (H := pithref07_Encoder_adds.H) (c := pithref07_Encoder_adds.c) (args := [x0, x1]) mixed Try.func83 (by kernel_rfl) (by kernel_rfl) (Nat.le_of_ble_eq_true (by kernel_rfl)) ((pithref07_Encoder_adds.eq x0 x1 w Q).mpr h)

/-! pithref07_Encoder_widens: (*pith/pithref07.Encoder).widens; temporaries: 0:e 1:e -/
def pithref07_Encoder_widens.H : Hints := { cut := fun  | _ => none, loop := fun | 0 => ([], 2147483644) | _ => ([], 0), order := fun  | _ => [] }
def pithref07_Encoder_widens.F [Pan] (x0 : Value) (w : World) (Q : Value → World → Prop) : Prop :=
 ∃ (L0 : World → Prop) (m0 : World → Nat),
 L0 w ∧
 ∀ (_k0 : Env) (w1 : World), L0 w1 →
 pN Try.prog (oNil x0) w1 fun x3 w2 =>
 pN Try.prog (oFld 139 x3 1) w2 fun x4 w3 =>
 pN Try.prog (oLoad 26 x4) w3 fun x5 w4 =>
 pN Try.prog (oBin .lss 26 (.tmp 5) (.const (.int .u32 16777216)) x5 (.int .u32 16777216)) w4 fun x6 w5 =>
 pIf x6
 (pN Try.prog (oNil x0) w5 fun x9 w6 =>
 pN Try.prog (oFld 139 x9 1) w6 fun x10 w7 =>
 pN Try.prog (oLoad 26 x10) w7 fun x11 w8 =>
 pN Try.prog (oBin .mul 26 (.tmp 11) (.const (.int .u32 256)) x11 (.int .u32 256)) w8 fun x12 w9 =>
 pN Try.prog (oNil x0) w9 fun x13 w10 =>
 pN Try.prog (oFld 139 x13 1) w10 fun x14 w11 =>
 pN Try.prog (oStore 26 x14 x12) w11 fun _ w12 =>
 pN Try.prog (oNil x0) w12 fun x17 w13 =>
 pN Try.prog (oFld 139 x17 0) w13 fun x18 w14 =>
 pN Try.prog (oLoad 29 x18) w14 fun x19 w15 =>
 pN Try.prog (oBs 29 1 [(0, (bv 0))]) w15 fun x20 w16 =>
 pN Try.prog (oBi .append #[29, 29] 29 [false, false] [x19, x20]) w16 fun x21 w17 =>
 pN Try.prog (oNil x0) w17 fun x22 w18 =>
 pN Try.prog (oFld 139 x22 0) w18 fun x23 w19 =>
 pN Try.prog (oStore 29 x23 x21) w19 fun _ w20 =>
 pN Try.prog (oNil x0) w20 fun x25 w21 =>
 pN Try.prog (oFld 139 x25 2) w21 fun x26 w22 =>
 pN Try.prog (oLoad 3 x26) w22 fun x27 w23 =>
 pN Try.prog (oBin .add 3 (.tmp 27) (.const (.int .i64 1)) x27 (.int .i64 1)) w23 fun x28 w24 =>
 pN Try.prog (oNil x0) w24 fun x29 w25 =>
 pN Try.prog (oFld 139 x29 2) w25 fun x30 w26 =>
 pN Try.prog (oStore 3 x30 x28) w26 fun _ w27 =>
 (L0 w27 ∧ m0 w27 < m0 w1))
 (Q (.tuple #[]) w5)
noncomputable def pithref07_Encoder_widens.c : Code := match Try.f84.body with | some c => c | none => .skip
theorem pithref07_Encoder_widens.eq [Pan] (x0 : Value) (w : World) (Q : Value → World → Prop) : cw Try.prog pithref07_Encoder_widens.H pithref07_Encoder_widens.c (endQ Try.prog Try.f84.results.toList Q) (argsE [x0]) w = pithref07_Encoder_widens.F x0 w Q := by kernel_rfl
theorem pithref07_Encoder_widens.calls [Pan] {x0 : Value} {w : World} {Q : Value → World → Prop} (h : pithref07_Encoder_widens.F x0 w Q) : Calls Try.prog 84 #[x0] w (retP Q) :=
  calls_of_cw (H := pithref07_Encoder_widens.H) (c := pithref07_Encoder_widens.c) (args := [x0]) mixed Try.func84 (by kernel_rfl) (by kernel_rfl) (Nat.le_of_ble_eq_true (by kernel_rfl)) ((pithref07_Encoder_widens.eq x0 w Q).mpr h)

end Go.Proofs.Ytoejaggkedlfmaa

namespace Go.Proofs.Ytoejaggkedlfmaa
open Go
set_option linter.unusedSimpArgs false
set_option linter.unnecessarySimpa false
set_option linter.unusedSectionVars false
set_option linter.unusedVariables false
set_option maxRecDepth 100000

/-! pithref06_New: pith/pithref06.New; temporaries: 0:n 1:n 4:s -/
def pithref06_New.H : Hints := { cut := fun  | _ => none, loop := fun  | _ => ([], 0), order := fun  | _ => [] }
def pithref06_New.F [Pan] (x0 : Value) (w : World) (Q : Value → World → Prop) : Prop :=
 pN Try.prog (oBin .lss 3 (.tmp 5) (.const (.int .i64 0)) x0 (.int .i64 0)) w fun x6 w1 =>
 pGd (gB x6 false) (pN Try.prog (oMv x0) w1) w1 fun x8 w2 =>
 pGd (gB x6 false) (pN Try.prog (oBin .gtr 3 (.tmp 8) (.const (.int .i64 1048576)) x8 (.int .i64 1048576)) w2) w2 fun x9 w3 =>
 pN Try.prog (oPick x6 (.bool true) x9) w3 fun x10 w4 =>
 pIf x10
 (Q (.tuple #[(.pointer none), (.int .i64 7)]) w4)
 (pN Try.prog (oMk 23 x0 x0) w4 fun x13 w5 =>
 pN Try.prog (oBuild 145 [(0, x0), (1, x13)]) w5 fun x14 w6 =>
 pN Try.prog (oBox 145 x14) w6 fun x15 w7 =>
 pN Try.prog (oCall 88 [x15]) w7 fun _ w8 =>
 Q (.tuple #[x15, (.int .i64 0)]) w8)
noncomputable def pithref06_New.c : Code := match Try.f46.body with | some c => c | none => .skip
theorem pithref06_New.eq [Pan] (x0 : Value) (w : World) (Q : Value → World → Prop) : cw Try.prog pithref06_New.H pithref06_New.c (endQ Try.prog Try.f46.results.toList Q) (argsE [x0]) w = pithref06_New.F x0 w Q := by kernel_rfl
theorem pithref06_New.calls [Pan] {x0 : Value} {w : World} {Q : Value → World → Prop} (h : pithref06_New.F x0 w Q) : Calls Try.prog 46 #[x0] w (retP Q) :=
  calls_of_cw (H := pithref06_New.H) (c := pithref06_New.c) (args := [x0]) mixed Try.func46 (by kernel_rfl) (by kernel_rfl) (Nat.le_of_ble_eq_true (by kernel_rfl)) ((pithref06_New.eq x0 w Q).mpr h)

/-! pithref06_Set_At: (*pith/pithref06.Set).At; temporaries: 0:s 1:i 2:s 3:i -/
def pithref06_Set_At.H : Hints := { cut := fun  | _ => none, loop := fun  | _ => ([], 0), order := fun  | _ => [] }
def pithref06_Set_At.F [Pan] (x0 : Value) (x1 : Value) (w : World) (Q : Value → World → Prop) : Prop :=
 pN Try.prog (oBin .lss 3 (.tmp 6) (.const (.int .i64 0)) x1 (.int .i64 0)) w fun x7 w1 =>
 pGd (gB x7 false) (pN Try.prog (oMv x1) w1) w1 fun x9 w2 =>
 pGd (gB x7 false) (pN Try.prog (oMv x0) w2) w2 fun x10 w3 =>
 pGd (gB x7 false) (pN Try.prog (oNil x10) w3) w3 fun x11 w4 =>
 pGd (gB x7 false) (pN Try.prog (oFld 145 x11 1) w4) w4 fun x12 w5 =>
 pGd (gB x7 false) (pN Try.prog (oLoad 23 x12) w5) w5 fun x13 w6 =>
 pGd (gB x7 false) (pN Try.prog (oBi .len #[23] 3 [false] [x13]) w6) w6 fun x14 w7 =>
 pGd (gB x7 false) (pN Try.prog (oBin .geq 3 (.tmp 9) (.tmp 14) x9 x14) w7) w7 fun x15 w8 =>
 pN Try.prog (oPick x7 (.bool true) x15) w8 fun x16 w9 =>
 pIf x16
 (Q (.tuple #[(.int .i64 0), (.int .i64 7)]) w9)
 (pN Try.prog (oNil x0) w9 fun x18 w10 =>
 pN Try.prog (oFld 145 x18 1) w10 fun x19 w11 =>
 pN Try.prog (oLoad 23 x19) w11 fun x20 w12 =>
 pN Try.prog (oIdx 23 x20 x1) w12 fun x22 w13 =>
 pN Try.prog (oLoad 3 x22) w13 fun x23 w14 =>
 Q (.tuple #[x23, (.int .i64 0)]) w14)
noncomputable def pithref06_Set_At.c : Code := match Try.f79.body with | some c => c | none => .skip
theorem pithref06_Set_At.eq [Pan] (x0 : Value) (x1 : Value) (w : World) (Q : Value → World → Prop) : cw Try.prog pithref06_Set_At.H pithref06_Set_At.c (endQ Try.prog Try.f79.results.toList Q) (argsE [x0, x1]) w = pithref06_Set_At.F x0 x1 w Q := by kernel_rfl
theorem pithref06_Set_At.calls [Pan] {x0 : Value} {x1 : Value} {w : World} {Q : Value → World → Prop} (h : pithref06_Set_At.F x0 x1 w Q) : Calls Try.prog 79 #[x0, x1] w (retP Q) :=
  calls_of_cw (H := pithref06_Set_At.H) (c := pithref06_Set_At.c) (args := [x0, x1]) mixed Try.func79 (by kernel_rfl) (by kernel_rfl) (Nat.le_of_ble_eq_true (by kernel_rfl)) ((pithref06_Set_At.eq x0 x1 w Q).mpr h)

/-! pithref06_Bound: pith/pithref06.Bound; temporaries: 0:rng 1:p 2:rng 3:p -/
def pithref06_Bound.H : Hints := { cut := fun  | _ => none, loop := fun  | _ => ([], 0), order := fun  | _ => [] }
def pithref06_Bound.F [Pan] (x0 : Value) (x1 : Value) (w : World) (Q : Value → World → Prop) : Prop :=
 pN Try.prog (oBin .quo 26 (.tmp 5) (.const (.int .u32 2048)) x0 (.int .u32 2048)) w fun x6 w1 =>
 pN Try.prog (oCall 105 [x1]) w1 fun x8 w2 =>
 pN Try.prog (oConv 3 26 x8) w2 fun x9 w3 =>
 pN Try.prog (oBin .mul 26 (.tmp 6) (.tmp 9) x6 x9) w3 fun x10 w4 =>
 Q x10 w4
noncomputable def pithref06_Bound.c : Code := match Try.f81.body with | some c => c | none => .skip
theorem pithref06_Bound.eq [Pan] (x0 : Value) (x1 : Value) (w : World) (Q : Value → World → Prop) : cw Try.prog pithref06_Bound.H pithref06_Bound.c (endQ Try.prog Try.f81.results.toList Q) (argsE [x0, x1]) w = pithref06_Bound.F x0 x1 w Q := by kernel_rfl
theorem pithref06_Bound.calls [Pan] {x0 : Value} {x1 : Value} {w : World} {Q : Value → World → Prop} (h : pithref06_Bound.F x0 x1 w Q) : Calls Try.prog 81 #[x0, x1] w (retP Q) :=
  calls_of_cw (H := pithref06_Bound.H) (c := pithref06_Bound.c) (args := [x0, x1]) mixed Try.func81 (by kernel_rfl) (by kernel_rfl) (Nat.le_of_ble_eq_true (by kernel_rfl)) ((pithref06_Bound.eq x0 x1 w Q).mpr h)

/-! pithref06_Set_Turn: (*pith/pithref06.Set).Turn; temporaries: 0:s 1:i 2:bit 3:s 4:i 5:bit -/
def pithref06_Set_Turn.H : Hints := { cut := fun  | _ => none, loop := fun  | _ => ([], 0), order := fun | 3 => [(0, 0), (1, 1), (2, 3), (3, 7), (4, 15), (5, 31), (6, 63), (7, 127), (8, 255), (9, 511), (10, 1023), (11, 2047), (12, 4095), (13, 8191), (14, 16383), (15, 32767)] | _ => [] }
def pithref06_Set_Turn.F [Pan] (x0 : Value) (x1 : Value) (x2 : Value) (w : World) (Q : Value → World → Prop) : Prop :=
 pN Try.prog (oBin .lss 3 (.tmp 7) (.const (.int .i64 0)) x1 (.int .i64 0)) w fun x8 w1 =>
 pGd (gB x8 false) (pN Try.prog (oMv x1) w1) w1 fun x10 w2 =>
 pGd (gB x8 false) (pN Try.prog (oMv x0) w2) w2 fun x11 w3 =>
 pGd (gB x8 false) (pN Try.prog (oNil x11) w3) w3 fun x12 w4 =>
 pGd (gB x8 false) (pN Try.prog (oFld 145 x12 1) w4) w4 fun x13 w5 =>
 pGd (gB x8 false) (pN Try.prog (oLoad 23 x13) w5) w5 fun x14 w6 =>
 pGd (gB x8 false) (pN Try.prog (oBi .len #[23] 3 [false] [x14]) w6) w6 fun x15 w7 =>
 pGd (gB x8 false) (pN Try.prog (oBin .geq 3 (.tmp 10) (.tmp 15) x10 x15) w7) w7 fun x16 w8 =>
 pN Try.prog (oPick x8 (.bool true) x16) w8 fun x17 w9 =>
 pIf x17
 (Q (.int .i64 7) w9)
 (pDr w9 fun w10 =>
 pA Try.prog (oNil x0) fun x19 =>
 pA Try.prog (oFld 145 x19 1) fun x20 =>
 pL Try.prog (oLoad 23 x20) w10 fun x21 =>
 pA Try.prog (oNil x0) fun x24 =>
 pA Try.prog (oFld 145 x24 1) fun x25 =>
 pL Try.prog (oLoad 23 x25) w10 fun x26 =>
 pA Try.prog (oIdx 23 x26 x1) fun x28 =>
 pL Try.prog (oLoad 3 x28) w10 fun x29 =>
 pN Try.prog (oCall 106 [x29, x2]) w10 fun x31 w11 =>
 ((Sem.run Try.prog (oLoad 23 x20) w11 = .ok (.value x21) w11) ∧ True) ∧ (pA Try.prog (oIdx 23 x21 x1) fun x32 =>
 pN Try.prog (oStore 3 x32 x31) w11 fun _ w12 =>
 (True) ∧ (Q (.int .i64 0) w12)))
noncomputable def pithref06_Set_Turn.c : Code := match Try.f82.body with | some c => c | none => .skip
theorem pithref06_Set_Turn.eq [Pan] (x0 : Value) (x1 : Value) (x2 : Value) (w : World) (Q : Value → World → Prop) : cw Try.prog pithref06_Set_Turn.H pithref06_Set_Turn.c (endQ Try.prog Try.f82.results.toList Q) (argsE [x0, x1, x2]) w = pithref06_Set_Turn.F x0 x1 x2 w Q := by kernel_rfl
theorem pithref06_Set_Turn.calls [Pan] {x0 : Value} {x1 : Value} {x2 : Value} {w : World} {Q : Value → World → Prop} (h : pithref06_Set_Turn.F x0 x1 x2 w Q) : Calls Try.prog 82 #[x0, x1, x2] w (retP Q) :=
  calls_of_cw (H := pithref06_Set_Turn.H) (c := pithref06_Set_Turn.c) (args := [x0, x1, x2]) mixed Try.func82 (by kernel_rfl) (by kernel_rfl) (Nat.le_of_ble_eq_true (by kernel_rfl)) ((pithref06_Set_Turn.eq x0 x1 x2 w Q).mpr h)

/-! pithref06_Set_Reset: (*pith/pithref06.Set).Reset; temporaries: 0:s 1:s 2:i -/
def pithref06_Set_Reset.H : Hints := { cut := fun  | _ => none, loop := fun | 1 => ([2], 262140) | _ => ([], 0), order := fun  | _ => [] }
def pithref06_Set_Reset.F [Pan] (x0 : Value) (w : World) (Q : Value → World → Prop) : Prop :=
 ∃ (L1 : Value → World → Prop) (m1 : Value → World → Nat),
 L1 (.int .i64 0) w ∧
 ∀ (_k1 : Env) (i2l1 : Value) (w1 : World), L1 i2l1 w1 →
 pN Try.prog (oNil x0) w1 fun x5 w2 =>
 pN Try.prog (oFld 145 x5 1) w2 fun x6 w3 =>
 pN Try.prog (oLoad 23 x6) w3 fun x7 w4 =>
 pN Try.prog (oBi .len #[23] 3 [false] [x7]) w4 fun x8 w5 =>
 pN Try.prog (oBin .lss 3 (.tmp 3) (.tmp 8) i2l1 x8) w5 fun x9 w6 =>
 pIf x9
 (pN Try.prog (oNil x0) w6 fun x13 w7 =>
 pN Try.prog (oFld 145 x13 1) w7 fun x14 w8 =>
 pN Try.prog (oLoad 23 x14) w8 fun x15 w9 =>
 pN Try.prog (oIdx 23 x15 i2l1) w9 fun x17 w10 =>
 pN Try.prog (oStore 3 x17 (.int .i64 1024)) w10 fun _ w11 =>
 pN Try.prog (oBin .add 3 (.tmp 10) (.const (.int .i64 1)) i2l1 (.int .i64 1)) w11 fun x11 w12 =>
 (L1 x11 w12 ∧ m1 x11 w12 < m1 i2l1 w1))
 (Q (.tuple #[]) w6)
noncomputable def pithref06_Set_Reset.c : Code := match Try.f88.body with | some c => c | none => .skip
theorem pithref06_Set_Reset.eq [Pan] (x0 : Value) (w : World) (Q : Value → World → Prop) : cw Try.prog pithref06_Set_Reset.H pithref06_Set_Reset.c (endQ Try.prog Try.f88.results.toList Q) (argsE [x0]) w = pithref06_Set_Reset.F x0 w Q := by kernel_rfl
theorem pithref06_Set_Reset.calls [Pan] {x0 : Value} {w : World} {Q : Value → World → Prop} (h : pithref06_Set_Reset.F x0 w Q) : Calls Try.prog 88 #[x0] w (retP Q) :=
  calls_of_cw (H := pithref06_Set_Reset.H) (c := pithref06_Set_Reset.c) (args := [x0]) mixed Try.func88 (by kernel_rfl) (by kernel_rfl) (Nat.le_of_ble_eq_true (by kernel_rfl)) ((pithref06_Set_Reset.eq x0 w Q).mpr h)

/-! pithref06_bound: pith/pithref06.bound; temporaries: 0:p 1:p -/
def pithref06_bound.H : Hints := { cut := fun  | _ => none, loop := fun  | _ => ([], 0), order := fun  | _ => [] }
def pithref06_bound.F [Pan] (x0 : Value) (w : World) (Q : Value → World → Prop) : Prop :=
 pN Try.prog (oBin .lss 3 (.tmp 3) (.const (.int .i64 0)) x0 (.int .i64 0)) w fun x4 w1 =>
 pIf x4
 (Q (.int .i64 0) w1)
 (pN Try.prog (oBin .gtr 3 (.tmp 5) (.const (.int .i64 2047)) x0 (.int .i64 2047)) w1 fun x6 w2 =>
 pIf x6
 (Q (.int .i64 2047) w2)
 (Q x0 w2))
noncomputable def pithref06_bound.c : Code := match Try.f105.body with | some c => c | none => .skip
theorem pithref06_bound.eq [Pan] (x0 : Value) (w : World) (Q : Value → World → Prop) : cw Try.prog pithref06_bound.H pithref06_bound.c (endQ Try.prog Try.f105.results.toList Q) (argsE [x0]) w = pithref06_bound.F x0 w Q := by kernel_rfl
theorem pithref06_bound.calls [Pan] {x0 : Value} {w : World} {Q : Value → World → Prop} (h : pithref06_bound.F x0 w Q) : Calls Try.prog 105 #[x0] w (retP Q) :=
  calls_of_cw (H := pithref06_bound.H) (c := pithref06_bound.c) (args := [x0]) mixed Try.func105 (by kernel_rfl) (by kernel_rfl) (Nat.le_of_ble_eq_true (by kernel_rfl)) ((pithref06_bound.eq x0 w Q).mpr h)

/-! pithref06_Next: pith/pithref06.Next; temporaries: 0:p 1:bit 2:p 3:bit -/
def pithref06_Next.H : Hints := { cut := fun  | _ => none, loop := fun  | _ => ([], 0), order := fun  | _ => [] }
def pithref06_Next.F [Pan] (x0 : Value) (x1 : Value) (w : World) (Q : Value → World → Prop) : Prop :=
 pN Try.prog (oCall 105 [x0]) w fun x6 w1 =>
 pN Try.prog (oBin .eql 3 (.tmp 7) (.const (.int .i64 0)) x1 (.int .i64 0)) w1 fun x8 w2 =>
 pIf x8
 (pN Try.prog (oBin .sub 3 (.const (.int .i64 2048)) (.tmp 10) (.int .i64 2048) x6) w2 fun x11 w3 =>
 pN Try.prog (oBin .quo 3 (.tmp 11) (.const (.int .i64 32)) x11 (.int .i64 32)) w3 fun x12 w4 =>
 pN Try.prog (oBin .add 3 (.tmp 9) (.tmp 12) x6 x12) w4 fun x13 w5 =>
 Q x13 w5)
 (pN Try.prog (oBin .quo 3 (.tmp 15) (.const (.int .i64 32)) x6 (.int .i64 32)) w2 fun x16 w6 =>
 pN Try.prog (oBin .sub 3 (.tmp 14) (.tmp 16) x6 x16) w6 fun x17 w7 =>
 Q x17 w7)
noncomputable def pithref06_Next.c : Code := match Try.f106.body with | some c => c | none => .skip
theorem pithref06_Next.eq [Pan] (x0 : Value) (x1 : Value) (w : World) (Q : Value → World → Prop) : cw Try.prog pithref06_Next.H pithref06_Next.c (endQ Try.prog Try.f106.results.toList Q) (argsE [x0, x1]) w = pithref06_Next.F x0 x1 w Q := by kernel_rfl
theorem pithref06_Next.calls [Pan] {x0 : Value} {x1 : Value} {w : World} {Q : Value → World → Prop} (h : pithref06_Next.F x0 x1 w Q) : Calls Try.prog 106 #[x0, x1] w (retP Q) :=
  calls_of_cw (H := pithref06_Next.H) (c := pithref06_Next.c) (args := [x0, x1]) mixed Try.func106 (by kernel_rfl) (by kernel_rfl) (Nat.le_of_ble_eq_true (by kernel_rfl)) ((pithref06_Next.eq x0 x1 w Q).mpr h)

/-! pithref06_Cost: pith/pithref06.Cost; temporaries: 0:p 1:bit 2:p 3:bit -/
def pithref06_Cost.H : Hints := { cut := fun  | _ => none, loop := fun  | _ => ([], 0), order := fun  | _ => [] }
def pithref06_Cost.F [Pan] (x0 : Value) (x1 : Value) (w : World) (Q : Value → World → Prop) : Prop :=
 pN Try.prog (oCall 105 [x0]) w fun x6 w1 =>
 pN Try.prog (oBin .eql 3 (.tmp 7) (.const (.int .i64 0)) x1 (.int .i64 0)) w1 fun x8 w2 =>
 pIf x8
 (pN Try.prog (oCall 122 [x6]) w2 fun x10 w3 =>
 Q x10 w3)
 (pN Try.prog (oBin .sub 3 (.const (.int .i64 2047)) (.tmp 11) (.int .i64 2047) x6) w2 fun x12 w4 =>
 pN Try.prog (oCall 122 [x12]) w4 fun x13 w5 =>
 Q x13 w5)
noncomputable def pithref06_Cost.c : Code := match Try.f117.body with | some c => c | none => .skip
theorem pithref06_Cost.eq [Pan] (x0 : Value) (x1 : Value) (w : World) (Q : Value → World → Prop) : cw Try.prog pithref06_Cost.H pithref06_Cost.c (endQ Try.prog Try.f117.results.toList Q) (argsE [x0, x1]) w = pithref06_Cost.F x0 x1 w Q := by kernel_rfl
theorem pithref06_Cost.calls [Pan] {x0 : Value} {x1 : Value} {w : World} {Q : Value → World → Prop} (h : pithref06_Cost.F x0 x1 w Q) : Calls Try.prog 117 #[x0, x1] w (retP Q) :=
  calls_of_cw (H := pithref06_Cost.H) (c := pithref06_Cost.c) (args := [x0, x1]) mixed Try.func117 (by kernel_rfl) (by kernel_rfl) (Nat.le_of_ble_eq_true (by kernel_rfl)) ((pithref06_Cost.eq x0 x1 w Q).mpr h)

/-! pithref06_cost: pith/pithref06.cost; temporaries: 0:p 1:p 3:w 4:c 5:i -/
def pithref06_cost.H : Hints := { cut := fun  | _ => none, loop := fun | 4 => ([3, 4, 5], 33553464) | 8 => ([3, 4], 33030168) | _ => ([], 0), order := fun  | _ => [] }
def pithref06_cost.F [Pan] (x0 : Value) (w : World) (Q : Value → World → Prop) : Prop :=
 pN Try.prog (oBin .quo 3 (.tmp 6) (.const (.int .i64 16)) x0 (.int .i64 16)) w fun x7 w1 =>
 pN Try.prog (oBin .mul 3 (.const (.int .i64 16)) (.tmp 7) (.int .i64 16) x7) w1 fun x8 w2 =>
 pN Try.prog (oBin .add 3 (.tmp 8) (.const (.int .i64 8)) x8 (.int .i64 8)) w2 fun x9 w3 =>
 ∃ (L4 : Value → Value → Value → World → Prop) (m4 : Value → Value → Value → World → Nat),
 L4 x9 (.int .i64 0) (.int .i64 0) w3 ∧
 ∀ (_k4 : Env) (w3l4 : Value) (c4l4 : Value) (i5l4 : Value) (w4 : World), L4 w3l4 c4l4 i5l4 w4 →
 pN Try.prog (oBin .lss 3 (.tmp 10) (.const (.int .i64 4)) i5l4 (.int .i64 4)) w4 fun x11 w5 =>
 pIf x11
 (pN Try.prog (oBin .mul 3 (.tmp 14) (.tmp 15) w3l4 w3l4) w5 fun x16 w6 =>
 pN Try.prog (oBin .mul 3 (.const (.int .i64 2)) (.tmp 17) (.int .i64 2) c4l4) w6 fun x18 w7 =>
 ∃ (L8 : Value → Value → World → Prop) (m8 : Value → Value → World → Nat),
 L8 x16 x18 w7 ∧
 ∀ (_k8 : Env) (w3l8 : Value) (c4l8 : Value) (w8 : World), L8 w3l8 c4l8 w8 →
 pN Try.prog (oBin .geq 3 (.tmp 19) (.const (.int .i64 65536)) w3l8 (.int .i64 65536)) w8 fun x20 w9 =>
 pIf x20
 (pN Try.prog (oBin .quo 3 (.tmp 21) (.const (.int .i64 2)) w3l8 (.int .i64 2)) w9 fun x22 w10 =>
 pN Try.prog (oBin .add 3 (.tmp 23) (.const (.int .i64 1)) c4l8 (.int .i64 1)) w10 fun x24 w11 =>
 (L8 x22 x24 w11 ∧ m8 x22 x24 w11 < m8 w3l8 c4l8 w8))
 (pN Try.prog (oBin .add 3 (.tmp 12) (.const (.int .i64 1)) i5l4 (.int .i64 1)) w9 fun x13 w12 =>
 (L4 w3l8 c4l8 x13 w12 ∧ m4 w3l8 c4l8 x13 w12 < m4 w3l4 c4l4 i5l4 w4)))
 (pN Try.prog (oBin .sub 3 (.const (.int .i64 161)) (.tmp 25) (.int .i64 161) c4l4) w5 fun x26 w13 =>
 Q x26 w13)
noncomputable def pithref06_cost.c : Code := match Try.f122.body with | some c => c | none => .skip
theorem pithref06_cost.eq [Pan] (x0 : Value) (w : World) (Q : Value → World → Prop) : cw Try.prog pithref06_cost.H pithref06_cost.c (endQ Try.prog Try.f122.results.toList Q) (argsE [x0]) w = pithref06_cost.F x0 w Q := by kernel_rfl
theorem pithref06_cost.calls [Pan] {x0 : Value} {w : World} {Q : Value → World → Prop} (h : pithref06_cost.F x0 w Q) : Calls Try.prog 122 #[x0] w (retP Q) :=
  calls_of_cw (H := pithref06_cost.H) (c := pithref06_cost.c) (args := [x0]) mixed Try.func122 (by kernel_rfl) (by kernel_rfl) (Nat.le_of_ble_eq_true (by kernel_rfl)) ((pithref06_cost.eq x0 w Q).mpr h)

end Go.Proofs.Ytoejaggkedlfmaa

namespace Go.Proofs.Ytoejaggkedlfmaa
open Go
set_option linter.unusedSimpArgs false
set_option linter.unnecessarySimpa false
set_option linter.unusedSectionVars false
set_option linter.unusedVariables false
attribute [local irreducible] oMv oV oU oCall oCallV oBi oBin oUn oLoad oStore oNil oFld oField oIdx oIndex oPick oAlloc oBox oBuild oBs oConv oMk oSl oExt oFn oIface oMap oLook oMapUp oRange oNext oAssert oPanic oRes pN pA pL pDr pIf gA pGd

/-- The document's row in block b. -/
def RSet (b : Nat) (l : List Int) : HA := fun h => ∃ s : Sl, Sats [cel b ⟨145, [.int .i64 l.length, .slice s.a l.length s.c]⟩, rows cd_int s l] h

section
variable {E w : World} {M : List HA} {Q : Value → World → Prop} {b : Nat} {l : List Int}

theorem RSet.opn (hS : Sat E w (RSet b l :: M)) : ∃ s : Sl, Sat E w (cel b ⟨145, [.int .i64 l.length, .slice s.a l.length s.c]⟩ :: rows cd_int s l :: M) := by
  obtain ⟨s, hS⟩ := hS.ex
  exact ⟨s, hS.open_ (M := [_, _]) fun _ h => h⟩
theorem RSet.shut {s : Sl} {L N : List HA} {o : Ob} (hS : Sat E w L) [h1 : Fnd (cel b) L o N] [h2 : Fnd (rows cd_int s) N l M] (ho : o = ⟨145, [.int .i64 l.length, .slice s.a l.length s.c]⟩) : Sat E w (RSet b l :: M) := by
  subst ho
  exact Sat.shut (M := [_, _]) (hS.fd2 (cel b) (rows cd_int s)) fun _ h => ⟨s, h⟩

theorem Rbound_ok (p : Int) (hQ : Q (.int .i64 (B.taken p)) w) : Calls Try.prog 105 #[.int .i64 p] w (retP Q) := by
  refine pithref06_bound.calls ?_
  unfold pithref06_bound.F
  unfold B.taken at hQ
  repeat' (first | ((first | refine pN_lss_s ?_ ?_ | refine pN_gtr_s ?_ ?_) <;> intro hc <;> try (exfalso; omega)) | refine pIf_t ?_ | refine pIf_f ?_ | fail)
  · rw [show max 0 (min p 2047) = 0 from by omega] at hQ; exact hQ
  · rw [show max 0 (min p 2047) = 2047 from by omega] at hQ; exact hQ
  · rw [show max 0 (min p 2047) = p from by omega] at hQ; exact hQ

theorem RNext_ok (p bit : Int) (hQ : Q (.int .i64 (B.next p bit)) w) : Calls Try.prog 106 #[.int .i64 p, .int .i64 bit] w (retP Q) := by
  refine pithref06_Next.calls ?_
  unfold pithref06_Next.F
  have h1 := B.taken_lo p
  have h2 := B.taken_hi p
  refine pc_pithref06_bound (Rbound_ok p ?_)
  repeat' (first | (refine pN_eql_s ?_ ?_ <;> intro hc <;> try (exfalso; first | omega | exact hc rfl | exact hc (by assumption) | exact absurd hc (by assumption))) | refine pIf_t ?_ | refine pIf_f ?_ | refine pN_via (by (intro K; simp (disch := omega) only [go_sem, pN_min, pN_max, w_u32, w_u64, Option.isNone_some, Option.isNone_none]; (try simp only [wrap_u32, wrap_u64]); rfl)) ?_ | fail)
  · rw [B.next, if_pos hc] at hQ; exact hQ
  · rw [B.next, if_neg hc] at hQ; exact hQ

theorem RBound_ok (rng p : Int) (h0 : 0 ≤ rng) (h1 : rng < 4294967296) (hQ : Q (.int .u32 (B.bound rng p)) w) : Calls Try.prog 81 #[.int .u32 rng, .int .i64 p] w (retP Q) := by
  refine pithref06_Bound.calls ?_
  unfold pithref06_Bound.F
  have h3 := B.taken_lo p
  have h4 := B.taken_hi p
  have h5 := B.bound_lo (rng := rng) (p := p) h0
  have h6 := B.bound_le (rng := rng) (p := p) h0
  unfold B.bound at h5 h6 hQ
  repeat' (first | refine pN_via (by (intro K; simp (disch := omega) only [go_sem, pN_min, pN_max, w_u32, w_u64, Option.isNone_some, Option.isNone_none]; (try simp only [wrap_u32, wrap_u64]); rfl)) ?_ | fail)
  refine pc_pithref06_bound (Rbound_ok p ?_)
  repeat' (first | refine pN_via (by (intro K; simp (disch := omega) only [go_sem, pN_min, pN_max, w_u32, w_u64, Option.isNone_some, Option.isNone_none]; (try simp only [wrap_u32, wrap_u64]); rfl)) ?_ | fail)
  exact hQ

theorem Rcost_ok (p : Int) (h0 : 0 ≤ p) (h1 : p ≤ 2047) (hQ : Q (.int .i64 (B.costing (p / 16))) w) : Calls Try.prog 122 #[.int .i64 p] w (retP Q) := by
  refine pithref06_cost.calls ?_
  unfold pithref06_cost.F
  repeat' (first | refine pN_via (by (intro K; simp (disch := omega) only [go_sem, pN_min, pN_max, w_u32, w_u64, Option.isNone_some, Option.isNone_none]; (try simp only [wrap_u32, wrap_u64]); rfl)) ?_ | fail)
  have i0 : 0 ≤ p / 16 := by omega
  have i1 : p / 16 ≤ 127 := by omega
  generalize p / 16 = i at *
  refine ⟨fun v c k w' => ∃ (x c' : Int) (j : Nat), v = .int .i64 x ∧ c = .int .i64 c' ∧ k = .int .i64 j ∧ j ≤ 4 ∧ x < 65536 ∧ 0 ≤ x ∧ 0 ≤ c' ∧ c' < 32 ^ j ∧ B.sq (4 - j) (x, c') = B.sq 4 (16 * i + 8, 0) ∧ w' = w, fun _ _ k _ => 4 - (RowKit.intOf k).toNat,
    ⟨16 * i + 8, 0, 0, rfl, rfl, rfl, by omega, by omega, by omega, by omega, by decide, rfl, rfl⟩, ?_⟩
  rintro _ _ _ _ w1 ⟨x, c, j, rfl, rfl, rfl, hj, a1, a2, a3, a4, a5, rfl⟩
  have a6 : (32 : Int) ^ j ≤ 1048576 := by
    have : j = 0 ∨ j = 1 ∨ j = 2 ∨ j = 3 ∨ j = 4 := by omega
    rcases this with rfl | rfl | rfl | rfl | rfl <;> decide
  have a7 : 0 ≤ x * x := Int.mul_nonneg a2 a2
  have a8 : x * x ≤ 65535 * 65535 := Int.mul_le_mul (by omega) (by omega) a2 (by omega)
  repeat' (first | (refine pN_lss_s ?_ ?_ <;> intro hc <;> try (exfalso; omega)) | refine pIf_t ?_ | refine pIf_f ?_ | refine pN_via (by (intro K; simp (disch := omega) only [go_sem, pN_min, pN_max, w_u32, w_u64, Option.isNone_some, Option.isNone_none]; (try simp only [wrap_u32, wrap_u64]); rfl)) ?_ | fail)
  · refine ⟨fun v k w' => ∃ (y d : Int) (f : Nat), v = .int .i64 y ∧ k = .int .i64 d ∧ f ≤ 20 ∧ 0 ≤ y ∧ y < 65536 * 2 ^ f ∧ y < 8589934592 ∧ 0 ≤ d ∧ d + f ≤ c * 2 + 20 ∧ B.halve f y d = B.halve 20 (x * x) (c * 2) ∧ w' = w1, fun v _ _ => (RowKit.intOf v).toNat,
      ⟨x * x, 2 * c, 20, rfl, rfl, by omega, a7, by
        have e : (65536 : Int) * 2 ^ 20 = 68719476736 := by decide
        omega, by omega, by omega, by omega, by rw [Int.mul_comm 2 c], rfl⟩, ?_⟩
    rintro _ _ _ w2 ⟨y, d, f, rfl, rfl, hf, b1, b2, b3, b4, b5, b6, rfl⟩
    repeat' (first | (refine pN_geq_s ?_ ?_ <;> intro hc <;> try (exfalso; omega)) | refine pIf_t ?_ | refine pIf_f ?_ | refine pN_via (by (intro K; simp (disch := omega) only [go_sem, pN_min, pN_max, w_u32, w_u64, Option.isNone_some, Option.isNone_none]; (try simp only [wrap_u32, wrap_u64]); rfl)) ?_ | fail)
    · obtain ⟨f, rfl⟩ : ∃ g, f = g + 1 := ⟨f - 1, by
        rcases Nat.eq_zero_or_pos f with rfl | h
        · simp at b2; omega
        · omega⟩
      rw [B.halve, if_pos (by omega)] at b6
      rw [Int.pow_succ] at b2
      exact ⟨⟨y / 2, d + 1, f, rfl, rfl, by omega, by omega, by omega, by omega, by omega, by omega, b6, rfl⟩, by simp [RowKit.intOf] <;> omega⟩
    · rw [B.halve_stop f d (by omega)] at b6
      refine ⟨⟨y, d, j + 1, rfl, rfl, rfl, by omega, by omega, b1, b4, ?_, ?_, rfl⟩, by simp [RowKit.intOf] <;> omega⟩
      · rw [Int.pow_succ]; omega
      · rw [← a5, show 4 - j = (4 - (j + 1)) + 1 from by omega, B.sq]
        simp only [B.square]
        rw [← b6]
  · obtain rfl : j = 4 := by omega
    have e : B.costing i = 161 - c := by
      have : B.sq 4 (16 * i + 8, 0) = (x, c) := a5.symm
      have e2 : B.costing i = 161 - (B.sq 4 (16 * i + 8, 0)).2 := rfl
      rw [e2, this]
    rw [← e]
    exact hQ

theorem RCost_ok (p bit : Int) (hQ : Q (.int .i64 (B.cost p bit)) w) : Calls Try.prog 117 #[.int .i64 p, .int .i64 bit] w (retP Q) := by
  refine pithref06_Cost.calls ?_
  unfold pithref06_Cost.F
  have h1 := B.taken_lo p
  have h2 := B.taken_hi p
  unfold B.cost at hQ
  refine pc_pithref06_bound (Rbound_ok p ?_)
  repeat' (first | (refine pN_eql_s ?_ ?_ <;> intro hc <;> try (exfalso; first | omega | exact hc rfl | exact hc (by assumption) | exact absurd hc (by assumption))) | refine pIf_t ?_ | refine pIf_f ?_ | refine pN_via (by (intro K; simp (disch := omega) only [go_sem, pN_min, pN_max, w_u32, w_u64, Option.isNone_some, Option.isNone_none]; (try simp only [wrap_u32, wrap_u64]); rfl)) ?_ | fail)
  · rw [if_pos (by omega)] at hQ
    refine pc_pithref06_cost (Rcost_ok _ (by omega) (by omega) ?_)
    exact hQ
  · rw [if_neg (by omega)] at hQ
    refine pc_pithref06_cost (Rcost_ok _ (by omega) (by omega) ?_)
    exact hQ

theorem RAt_ok (hS : Sat E w (RSet b l :: M)) (i : Int) (hQ : ∀ w, Sat E w (RSet b l :: M) → Q (.tuple #[.int .i64 (if 0 ≤ i ∧ i < l.length then l.getD i.toNat 0 else 0), .int .i64 (if 0 ≤ i ∧ i < l.length then 0 else 7)]) w) :
    Calls Try.prog 79 #[.pointer (some ⟨b, 0, none⟩), .int .i64 i] w (retP Q) := by
  refine pithref06_Set_At.calls ?_
  unfold pithref06_Set_At.F
  by_cases h : 0 ≤ i ∧ i < l.length
  · simp only [if_pos h] at hQ ⊢
    obtain ⟨s, hS⟩ := RSet.opn hS
    repeat' (first | ((first | refine pN_lss_s ?_ ?_ | refine pN_geq_s ?_ ?_) <;> intro hc <;> try (exfalso; omega)) | refine pIf_f ?_ | refine pGd_go (by rfl) ?_ | refine pN_l hS (by first | rfl | assumption) ?_ | refine pN_ld1 ha hS ?_ | refine pN_ix hS _ (by first | rfl | (exact (Int.toNat_of_nonneg (by omega)).symm)) (by first | rfl | omega | simpa only [go_sem] using True.intro | (simp only [go_sem]; omega)) (by first | omega | (simp only [go_sem]; omega)) fun a x hx ha hel => ?_ | refine pN_via (by (intro K; simp (disch := omega) only [go_sem, pN_min, pN_max, w_u32, w_u64, Option.isNone_some, Option.isNone_none]; (try simp only [wrap_u32, wrap_u64]); rfl)) ?_ | fail)
    rw [List.getD_eq_getElem?_getD, hx] at hQ
    exact hQ _ (RSet.shut (b := b) (s := s) hS rfl)
  · simp only [if_neg h] at hQ ⊢
    obtain ⟨s, hS⟩ := RSet.opn hS
    repeat' (first | ((first | refine pN_lss_s ?_ ?_ | refine pN_geq_s ?_ ?_) <;> intro hc <;> try (exfalso; omega)) | refine pIf_t ?_ | refine pGd_go (by rfl) ?_ | refine pGd_no (by rfl) ?_ | refine pN_l hS (by first | rfl | assumption) ?_ | refine pN_via (by (intro K; simp (disch := omega) only [go_sem, pN_min, pN_max, w_u32, w_u64, Option.isNone_some, Option.isNone_none]; (try simp only [wrap_u32, wrap_u64]); rfl)) ?_ | fail)
    all_goals exact hQ _ (RSet.shut (b := b) (s := s) hS rfl)

theorem RTurn_ok (hS : Sat E w (RSet b l :: M)) (i bit : Int) (hQ : ∀ w, Sat E w (RSet b (if 0 ≤ i ∧ i < l.length then l.set i.toNat (B.next (l.getD i.toNat 0) bit) else l) :: M) → Q (.int .i64 (if 0 ≤ i ∧ i < l.length then 0 else 7)) w) :
    Calls Try.prog 82 #[.pointer (some ⟨b, 0, none⟩), .int .i64 i, .int .i64 bit] w (retP Q) := by
  refine pithref06_Set_Turn.calls ?_
  unfold pithref06_Set_Turn.F
  by_cases h : 0 ≤ i ∧ i < l.length
  · simp only [if_pos h] at hQ ⊢
    obtain ⟨s, hS⟩ := RSet.opn hS
    repeat' (first | ((first | refine pN_lss_s ?_ ?_ | refine pN_geq_s ?_ ?_) <;> intro hc <;> try (exfalso; omega)) | refine pIf_f ?_ | refine pGd_go (by rfl) ?_ | refine pN_l hS (by first | rfl | assumption) ?_ | refine pL_l hS (by first | rfl | assumption) ?_ | refine pL_ld1 ha hS ?_ | (refine pDr_go hS ?_; clear hS; intro w hS) | refine pA_ix hS _ (by first | rfl | (exact (Int.toNat_of_nonneg (by omega)).symm)) (by first | rfl | omega | simpa only [go_sem] using True.intro | (simp only [go_sem]; omega)) (by first | omega | (simp only [go_sem]; omega)) fun a x hx ha hel => ?_ | refine pN_via (by (intro K; simp (disch := omega) only [go_sem, pN_min, pN_max, w_u32, w_u64, Option.isNone_some, Option.isNone_none]; (try simp only [wrap_u32, wrap_u64]); rfl)) ?_ | refine pA_via (by (intro K; simp (disch := omega) only [go_sem, pN_min, pN_max, w_u32, w_u64, Option.isNone_some, Option.isNone_none]; (try simp only [wrap_u32, wrap_u64]); rfl)) ?_ | fail)
    refine pc_pithref06_Next (RNext_ok _ bit ?_)
    repeat' (first | refine ⟨trivial, ?_⟩ | refine ⟨⟨(by first | exact run_l hS (by first | rfl | assumption) | exact run_st hS (by first | rfl | omega) | exact run_ld1 ha hS | exact fun _ => run_l hS (by rfl) | exact fun _ => run_st hS (by first | rfl | omega) | exact fun _ => run_ld1 ha hS | exact fun h => Bool.noConfusion h), trivial⟩, ?_⟩ | refine pA_ixk hS _ (by first | rfl | (exact (Int.toNat_of_nonneg (by omega)).symm)) (by first | rfl | omega | simpa only [go_sem] using True.intro | (simp only [go_sem]; omega)) (by assumption) fun a ha hel => ?_ | (refine pN_sr hel hS (by rfl) (by rfl) (by first | omega | (simp only [go_sem]; omega)) ?_; clear hS; intro w hS) | fail)
    have e : l.getD i.toNat 0 = x := by rw [List.getD_eq_getElem?_getD, hx]; rfl
    rw [e] at hQ
    exact hQ _ (RSet.shut (b := b) (s := s) hS (by rw [List.length_set]))
  · simp only [if_neg h] at hQ ⊢
    obtain ⟨s, hS⟩ := RSet.opn hS
    repeat' (first | ((first | refine pN_lss_s ?_ ?_ | refine pN_geq_s ?_ ?_) <;> intro hc <;> try (exfalso; omega)) | refine pIf_t ?_ | refine pGd_go (by rfl) ?_ | refine pGd_no (by rfl) ?_ | refine pN_l hS (by first | rfl | assumption) ?_ | refine pN_via (by (intro K; simp (disch := omega) only [go_sem, pN_min, pN_max, w_u32, w_u64, Option.isNone_some, Option.isNone_none]; (try simp only [wrap_u32, wrap_u64]); rfl)) ?_ | fail)
    all_goals exact hQ _ (RSet.shut (b := b) (s := s) hS rfl)

theorem RReset_ok (hS : Sat E w (RSet b l :: M)) (hQ : ∀ w, Sat E w (RSet b (List.replicate l.length 1024) :: M) → Q (.tuple #[]) w) : Calls Try.prog 88 #[.pointer (some ⟨b, 0, none⟩)] w (retP Q) := by
  refine pithref06_Set_Reset.calls ?_
  unfold pithref06_Set_Reset.F
  obtain ⟨s, hS⟩ := RSet.opn hS
  have hlen := rows_len (C := cd_int) s (hS.fd (rows cd_int s))
  refine ⟨fun v w => ∃ k : Nat, v = .int .i64 k ∧ k ≤ l.length ∧ Sat E w (cel b ⟨145, [.int .i64 l.length, .slice s.a l.length s.c]⟩ :: rows cd_int s (List.replicate k 1024 ++ l.drop k) :: M), fun v _ => l.length - (RowKit.intOf v).toNat, ⟨0, rfl, Nat.zero_le _, hS⟩, ?_⟩
  clear hS
  rintro _ _ w ⟨k, rfl, hk, hS⟩
  have e : (List.replicate k 1024 ++ l.drop k).length = l.length := by simp; omega
  repeat' (first | (refine pN_lss_s ?_ ?_ <;> intro hc <;> try (exfalso; omega)) | refine pIf_t ?_ | refine pIf_f ?_ | refine pN_l hS (by first | rfl | assumption) ?_ | refine pN_ix hS _ (by first | rfl | (exact (Int.toNat_of_nonneg (by omega)).symm)) (by first | rfl | omega | simpa only [go_sem] using True.intro | (simp only [go_sem]; omega)) (by first | omega | (simp only [go_sem]; omega)) fun a x hx ha hel => ?_ | (refine pN_sr hel hS (by rfl) (by rfl) (by first | omega | (simp only [go_sem]; omega)) ?_; clear hS; intro w hS) | refine pN_via (by (intro K; simp (disch := omega) only [go_sem, pN_min, pN_max, w_u32, w_u64, Option.isNone_some, Option.isNone_none]; (try simp only [wrap_u32, wrap_u64]); rfl)) ?_ | fail)
  · refine ⟨⟨k + 1, rfl, by omega, ?_⟩, by simp [RowKit.intOf]; omega⟩
    have e2 : (List.replicate k (1024 : Int) ++ l.drop k).set k 1024 = List.replicate (k + 1) 1024 ++ l.drop (k + 1) := by
      rw [List.set_append_right _ _ (by simp), List.length_replicate, Nat.sub_self, List.replicate_succ', List.append_assoc]
      have : k < l.length := by omega
      rw [List.drop_eq_getElem_cons this]
      rfl
    rw [e2] at hS
    exact hS.to
  · obtain rfl : k = l.length := by omega
    rw [List.drop_length, List.append_nil] at hS
    exact hQ _ (RSet.shut (b := b) (s := s) hS (by rw [List.length_replicate]))

theorem RNew_ok (hS : Sat E w M) (n : Int) (h0 : 0 ≤ n) (h1 : n ≤ 1048576) (hQ : ∀ b w, Sat E w (RSet b (List.replicate n.toNat 1024) :: M) → Q (.tuple #[.pointer (some ⟨b, 0, none⟩), .int .i64 0]) w) :
    Calls Try.prog 46 #[.int .i64 n] w (retP Q) := by
  refine pithref06_New.calls ?_
  unfold pithref06_New.F
  repeat' (first | ((first | refine pN_lss_s ?_ ?_ | refine pN_gtr_s ?_ ?_) <;> intro hc <;> try (exfalso; omega)) | refine pIf_f ?_ | refine pGd_go (by rfl) ?_ | (refine pN_bx hS (by rfl) ?_; clear hS; intro a w hS) | (refine pN_mk hS _ (by first | rfl | (exact (Int.toNat_of_nonneg (by omega)).symm)) (by first | omega | (simp only [go_sem]; omega)) ?_; clear hS; intro s w hS) | refine pN_via (by (intro K; simp (disch := omega) only [go_sem, pN_min, pN_max, w_u32, w_u64, Option.isNone_some, Option.isNone_none]; (try simp only [wrap_u32, wrap_u64]); rfl)) ?_ | fail)
  have hS : Sat E w (RSet a (List.replicate n.toNat 0) :: M) := RSet.shut (b := a) (s := s) hS (by rw [List.length_replicate, Int.toNat_of_nonneg h0])
  refine pc_pithref06_Set_Reset (RReset_ok hS fun w hS => ?_)
  rw [List.length_replicate] at hS
  exact hQ _ _ hS

end

end Go.Proofs.Ytoejaggkedlfmaa

namespace Go.Proofs.Ytoejaggkedlfmaa
open Go
set_option linter.unusedSimpArgs false
set_option linter.unnecessarySimpa false
set_option linter.unusedSectionVars false
set_option linter.unusedVariables false
attribute [local irreducible] oMv oV oU oCall oCallV oBi oBin oUn oLoad oStore oNil oFld oField oIdx oIndex oPick oAlloc oBox oBuild oBs oConv oMk oSl oExt oFn oIface oMap oLook oMapUp oRange oNext oAssert oPanic oRes pN pA pL pDr pIf gA pGd

namespace R
theorem digits_cons : ∀ (m : Nat) (n : Int), digits n (m + 1) = byteOf (n / 256 ^ m) :: digits n m
  | 0, n => by simp [digits]
  | m + 1, n => by
    rw [digits, digits_cons m, digits, Int.pow_succ, Int.mul_comm, ← Int.ediv_ediv_of_nonneg (by omega : (0 : Int) ≤ 256)]
    rfl
/-- The digits of N, of which the last m are those of X already. -/
def half (N X : Int) (k m : Nat) : List UInt8 := digits (N / 256 ^ m) (k - m) ++ digits X m
theorem half_len (N X : Int) {k m : Nat} (h : m ≤ k) : (half N X k m).length = k := by
  rw [half, List.length_append, digits_length, digits_length]; omega
theorem half_zero (N X : Int) (k : Nat) : half N X k 0 = digits N k := by
  rw [half, Int.pow_zero, Int.ediv_one, digits, List.append_nil, Nat.sub_zero]
theorem half_all (N X : Int) (k : Nat) : half N X k k = digits X k := by
  rw [half, Nat.sub_self, digits, List.nil_append]
theorem half_split (N X : Int) {k m : Nat} (h : m < k) : half N X k m = digits (N / 256 ^ (m + 1)) (k - (m + 1)) ++ byteOf (N / 256 ^ m) :: digits X m := by
  rw [half, show k - m = (k - (m + 1)) + 1 from by omega, digits, Int.pow_succ, ← Int.ediv_ediv_of_nonneg (Int.le_of_lt (Int.pow_pos (by omega))), List.append_assoc]
  rfl
theorem half_get (N X : Int) {k m : Nat} (h : m < k) : (half N X k m)[k - 1 - m]? = some (byteOf (N / 256 ^ m)) := by
  rw [half_split N X h, List.getElem?_append_right (by rw [digits_length]; omega), digits_length, show k - 1 - m - (k - (m + 1)) = 0 from by omega]
  rfl
theorem half_set (N X : Int) {k m : Nat} (h : m < k) : (half N X k m).set (k - 1 - m) (byteOf (X / 256 ^ m)) = half N X k (m + 1) := by
  rw [half_split N X h, List.set_append_right _ _ (by rw [digits_length]; omega), digits_length, show k - 1 - m - (k - (m + 1)) = 0 from by omega, half, digits_cons]
  rfl
end R

/-- The document's encoder in block b. -/
def REnc (b : Nat) (st : R.S) : HA := fun h => ∃ s : Sl, Sats [cel b ⟨139, [.slice s.a (st.k + 5 : Nat) s.c, .int .u32 st.R, .int .i64 st.k]⟩, rows cd_uint8 s st.bytes] h

section
variable {E w : World} {M : List HA} {Q : Value → World → Prop} {b : Nat} {st : R.S}

theorem bytes_len (st : R.S) : st.bytes.length = st.k + 5 := R.digits_length _ _
theorem REnc.opn (hS : Sat E w (REnc b st :: M)) : ∃ s : Sl, Sat E w (cel b ⟨139, [.slice s.a st.bytes.length s.c, .int .u32 st.R, .int .i64 st.k]⟩ :: rows cd_uint8 s st.bytes :: M) := by
  obtain ⟨s, hS⟩ := hS.ex
  refine ⟨s, ?_⟩
  rw [bytes_len]
  exact hS.open_ (M := [_, _]) fun _ h => h
theorem REnc.shut {s : Sl} {L N : List HA} {o : Ob} {l : List UInt8} (hS : Sat E w L) [h1 : Fnd (cel b) L o N] [h2 : Fnd (rows cd_uint8 s) N l M] (ho : o = ⟨139, [.slice s.a l.length s.c, .int .u32 st.R, .int .i64 st.k]⟩) (hl : l = st.bytes) : Sat E w (REnc b st :: M) := by
  subst hl
  subst ho
  rw [bytes_len] at h1
  exact Sat.shut (M := [_, _]) (hS.fd2 (cel b) (rows cd_uint8 s)) fun _ h => ⟨s, h⟩

theorem RNewE_ok (hS : Sat E w M) (hQ : ∀ b w, Sat E w (REnc b R.S.new :: M) → Q (.pointer (some ⟨b, 0, none⟩)) w) : Calls Try.prog 30 #[] w (retP Q) := by
  refine pithref07_New.calls ?_
  unfold pithref07_New.F
  repeat' (first | (refine pN_bx hS (by rfl) ?_; clear hS; intro a w hS) | (refine pN_mk hS _ (by first | rfl | (exact (Int.toNat_of_nonneg (by omega)).symm)) (by first | omega | (simp only [go_sem]; omega)) ?_; clear hS; intro s w hS) | refine pN_via (by (intro K; simp (disch := omega) only [go_sem, pN_min, pN_max, w_u32, w_u64, Option.isNone_some, Option.isNone_none]; (try simp only [wrap_u32, wrap_u64]); rfl)) ?_ | fail)
  exact hQ _ _ (REnc.shut (b := a) (s := s) hS rfl rfl)

theorem adds_ok (hS : Sat E w (REnc b st :: M)) (hk : st.k + 10 ≤ 140737488355328) (v : Int) (v0 : 0 ≤ v) (v1 : v < 4294967296) (hQ : ∀ w, Sat E w (REnc b ⟨st.N + v, st.R, st.k⟩ :: M) → Q (.tuple #[]) w) : Calls Try.prog 83 #[.pointer (some ⟨b, 0, none⟩), .int .u32 v] w (retP Q) := by
  refine pithref07_Encoder_adds.calls ?_
  unfold pithref07_Encoder_adds.F
  obtain ⟨s, hS⟩ := REnc.opn hS
  have hb := bytes_len st
  repeat' (first | refine pN_l hS (by first | rfl | assumption) ?_ | refine pN_via (by (intro K; simp (disch := omega) only [go_sem, pN_min, pN_max, w_u32, w_u64, Option.isNone_some, Option.isNone_none]; (try simp only [wrap_u32, wrap_u64]); rfl)) ?_ | fail)
  refine ⟨fun c i w => ∃ (m : Nat) (x : Int), c = .int .u64 x ∧ i = .int .i64 ((st.bytes.length : Int) - 1 - m) ∧ m ≤ st.k + 5 ∧ 0 ≤ x ∧ x < 4294967296 ∧ (st.N + v) / 256 ^ m = st.N / 256 ^ m + x ∧
      Sat E w (cel b ⟨139, [.slice s.a st.bytes.length s.c, .int .u32 st.R, .int .i64 st.k]⟩ :: rows cd_uint8 s (R.half st.N (st.N + v) (st.k + 5) m) :: M), fun _ i _ => (RowKit.intOf i + 1).toNat,
    ⟨0, v, rfl, congrArg (Value.int .i64) (by omega), Nat.zero_le _, v0, v1, by simp, by rw [R.half_zero]; exact hS⟩, ?_⟩
  clear hS
  rintro _ _ _ w ⟨m, x, rfl, rfl, hm, x0, x1, hx, hS⟩
  have hl := R.half_len st.N (st.N + v) hm
  by_cases hlt : m < st.k + 5
  · have hg := R.half_get st.N (st.N + v) hlt
    have hs := R.half_set st.N (st.N + v) hlt
    have e1 : ((st.bytes.length : Int) - 1 - m).toNat = st.k + 5 - 1 - m := by omega
    rw [← e1] at hg hs
    have e3 : (st.N + v) / 256 ^ (m + 1) = st.N / 256 ^ m / 256 + (x + st.N / 256 ^ m % 256) / 256 ∧ st.N / 256 ^ (m + 1) = st.N / 256 ^ m / 256 := by
      have p : (0 : Int) ≤ 256 ^ m := Int.le_of_lt (Int.pow_pos (by omega))
      rw [Int.pow_succ, ← Int.ediv_ediv_of_nonneg p, ← Int.ediv_ediv_of_nonneg p, hx]
      omega
    have e4 : (((byteOf (st.N / 256 ^ m)).toNat : Nat) : Int) = st.N / 256 ^ m % 256 := byteOf_toNat _
    have e5 : byteOf ((x + ((byteOf (st.N / 256 ^ m)).toNat : Nat)) % 256) = byteOf ((st.N + v) / 256 ^ m) := by
      apply UInt8.toNat_inj.1
      have a1 := byteOf_toNat ((x + ((byteOf (st.N / 256 ^ m)).toNat : Nat)) % 256)
      have a2 := byteOf_toNat ((st.N + v) / 256 ^ m)
      omega
    generalize R.half st.N (st.N + v) (st.k + 5) m = l at hl hg hs hS
    repeat' (first | (refine pN_geq_s ?_ ?_ <;> intro hc <;> try (exfalso; omega)) | refine pIf_t ?_ | refine pN_tob ?_ | refine pN_ofb ?_ | refine pN_l hS (by first | rfl | assumption) ?_ | refine pN_ld1 ha hS ?_ | refine pN_ixk hS _ (by first | rfl | (exact (Int.toNat_of_nonneg (by omega)).symm)) (by first | rfl | omega | simpa only [go_sem] using True.intro | (simp only [go_sem]; omega)) (by assumption) fun a ha hel => ?_ | (refine pN_sr hel hS (by rfl) (by rfl) (by first | omega | (simp only [go_sem]; omega)) ?_; clear hS; intro w hS) | refine pN_via (by (intro K; simp (disch := omega) only [go_sem, pN_min, pN_max, w_u32, w_u64, Option.isNone_some, Option.isNone_none]; (try simp only [wrap_u32, wrap_u64]); rfl)) ?_ | fail)
    rw [e5, hs] at hS
    rw [e4]
    refine ⟨⟨m + 1, (x + st.N / 256 ^ m % 256) / 256, rfl, congrArg (Value.int .i64) (by omega), by omega, by omega, by omega, ?_, hS.to⟩, by simp [RowKit.intOf] <;> omega⟩
    rw [e3.1, e3.2]
  · obtain rfl : m = st.k + 5 := by omega
    rw [R.half_all] at hS
    repeat' (first | (refine pN_geq_s ?_ ?_ <;> intro hc <;> try (exfalso; omega)) | refine pIf_f ?_ | fail)
    exact hQ _ (REnc.shut (b := b) (s := s) (st := ⟨st.N + v, st.R, st.k⟩) hS (by rw [hb, bytes_len]) rfl)

theorem widens_ok (hS : Sat E w (REnc b st :: M)) (r0 : 0 < st.R) (r1 : st.R < 4294967296) (hk : st.k + 10 ≤ 140737488355328) (hQ : ∀ w, Sat E w (REnc b st.widen :: M) → Q (.tuple #[]) w) : Calls Try.prog 84 #[.pointer (some ⟨b, 0, none⟩)] w (retP Q) := by
  refine pithref07_Encoder_widens.calls ?_
  unfold pithref07_Encoder_widens.F
  have hk3 := (R.widen_k _ st rfl r0).1
  refine ⟨fun w => ∃ t : R.S, t.widen = st.widen ∧ 0 < t.R ∧ t.R < 4294967296 ∧ Sat E w (REnc b t :: M), fun w => 4294967296 - wInt b 1 w, ⟨st, rfl, r0, r1, hS⟩, ?_⟩
  clear hS
  rintro _ w ⟨t, ht, t0, t1, hS⟩
  have hm := R.widen_mono t
  rw [ht] at hm
  obtain ⟨s, hS⟩ := REnc.opn hS
  have hb := bytes_len t
  have hw := wInt_eq (b := b) (i := 1) hS rfl
  repeat' (first | (refine pN_lss_s ?_ ?_ <;> intro hc <;> try (exfalso; omega)) | refine pIf_t ?_ | refine pIf_f ?_ | refine pN_l hS (by first | rfl | assumption) ?_ | (refine pN_s hS (by first | exact Nat.le_of_ble_eq_true rfl | assumption) (by rfl) ?_; clear hS; intro w hS; try simp only [List.set_cons_zero, List.set_cons_succ] at hS) | (refine pN_b1 hS (by rfl) (by decide) ?_; clear hS; intro s w hS) | (refine pN_app hS (by first | rfl | omega | simpa only [go_sem] using True.intro | (simp only [go_sem]; omega)) (by first | rfl | omega | simpa only [go_sem] using True.intro | (simp only [go_sem]; omega)) (by first | omega | (simp only [go_sem]; omega)) ?_; clear hS; intro s w hS) | refine pN_via (by (intro K; simp (disch := omega) only [go_sem, pN_min, pN_max, w_u32, w_u64, Option.isNone_some, Option.isNone_none]; (try simp only [wrap_u32, wrap_u64]); rfl)) ?_ | fail)
  · have e := R.digits_mul t.N (t.k + 5)
    have hw2 : wInt b 1 _ = _ := wInt_eq (b := b) (i := 1) hS rfl
    have hS := REnc.shut (b := b) (s := s) (st := ⟨t.N * 256, t.R * 256, t.k + 1⟩) hS (by simp <;> rfl) (by rw [R.S.bytes, R.S.bytes]; exact e.symm)
    refine ⟨⟨⟨t.N * 256, t.R * 256, t.k + 1⟩, ?_, ?_, ?_, hS.to⟩, ?_⟩
    · rw [← ht]; exact (R.S.widen_go t0 (by omega)).symm
    · show 0 < t.R * 256; omega
    · show t.R * 256 < 4294967296; omega
    · show 4294967296 - wInt b 1 _ < 4294967296 - wInt b 1 _
      rw [hw, hw2]; omega
  · rw [R.S.widen_no (by omega)] at ht
    subst ht
    exact hQ _ (REnc.shut (b := b) (s := s) hS rfl rfl)

theorem Rcut_ok (hS : Sat E w (REnc b st :: M)) (r1 : st.R < 4294967296) (hk : st.k + 10 ≤ 140737488355328) (c bit : Int) (c0 : 0 < c) (c1 : c < st.R) (hQ : ∀ w, Sat E w (REnc b (st.cut c bit) :: M) → Q (.tuple #[]) w) :
    Calls Try.prog 80 #[.pointer (some ⟨b, 0, none⟩), .int .u32 c, .int .i64 bit] w (retP Q) := by
  refine pithref07_Encoder_cut.calls ?_
  unfold pithref07_Encoder_cut.F
  refine ⟨fun w => Sat E w (REnc b (if bit = 0 then ⟨st.N, c, st.k⟩ else ⟨st.N + c, st.R - c, st.k⟩ : R.S) :: M), ?_, ?_⟩
  · by_cases h : bit = 0
    · rw [if_pos h]
      obtain ⟨s, hS⟩ := REnc.opn hS
      repeat' (first | (refine pN_eql_s ?_ ?_ <;> intro hc <;> try (exfalso; first | omega | exact hc rfl | exact hc (by assumption) | exact absurd hc (by assumption))) | refine pIf_t ?_ | (refine pN_s hS (by first | exact Nat.le_of_ble_eq_true rfl | assumption) (by rfl) ?_; clear hS; intro w hS; try simp only [List.set_cons_zero, List.set_cons_succ] at hS) | refine pN_via (by (intro K; simp (disch := omega) only [go_sem, pN_min, pN_max, w_u32, w_u64, Option.isNone_some, Option.isNone_none]; (try simp only [wrap_u32, wrap_u64]); rfl)) ?_ | fail)
      exact REnc.shut (b := b) (s := s) hS rfl rfl
    · rw [if_neg h]
      repeat' (first | (refine pc_pithref07_Encoder_adds (adds_ok hS (by omega) _ (by omega) (by omega) ?_); clear hS; intro w hS; obtain ⟨s, hS⟩ := REnc.opn hS) | (refine pN_eql_s ?_ ?_ <;> intro hc <;> try (exfalso; first | omega | exact hc rfl | exact hc (by assumption) | exact absurd hc (by assumption))) | refine pIf_f ?_ | refine pN_l hS (by first | rfl | assumption) ?_ | (refine pN_s hS (by first | exact Nat.le_of_ble_eq_true rfl | assumption) (by rfl) ?_; clear hS; intro w hS; try simp only [List.set_cons_zero, List.set_cons_succ] at hS) | refine pN_via (by (intro K; simp (disch := omega) only [go_sem, pN_min, pN_max, w_u32, w_u64, Option.isNone_some, Option.isNone_none]; (try simp only [wrap_u32, wrap_u64]); rfl)) ?_ | fail)
      exact REnc.shut (b := b) (s := s) hS rfl rfl
  · clear hS
    intro _ w hS
    refine pc_pithref07_Encoder_widens (widens_ok hS ?_ ?_ ?_ fun w hS => hQ w hS)
    · split
      · exact c0
      · show 0 < st.R - c; omega
    · split
      · show c < 4294967296; omega
      · show st.R - c < 4294967296; omega
    · split
      · exact hk
      · exact hk

theorem RBit_ok {p : Nat} {l : List Int} (hS : Sat E w (REnc b st :: RSet p l :: M)) (ho : R.Ok st) (hf : B.Fine l) (hk : st.k + 10 ≤ 140737488355328) (i bit : Int)
    (hQ : ∀ w, Sat E w (REnc b (if 0 ≤ i ∧ i < l.length then st.cut (B.bound st.R (l.getD i.toNat 0)) bit else st) :: RSet p (if 0 ≤ i ∧ i < l.length then l.set i.toNat (B.next (l.getD i.toNat 0) bit) else l) :: M) → Q (.int .i64 (if 0 ≤ i ∧ i < l.length then 0 else 7)) w) :
    Calls Try.prog 31 #[.pointer (some ⟨b, 0, none⟩), .pointer (some ⟨p, 0, none⟩), .int .i64 i, .int .i64 bit] w (retP Q) := by
  refine pithref07_Encoder_Bit.calls ?_
  unfold pithref07_Encoder_Bit.F
  refine pc_pithref06_Set_At (RAt_ok (hS.fd (RSet p)) i fun w hS => ?_)
  have r0 := ho.r0
  have r1 := ho.r1
  by_cases h : 0 ≤ i ∧ i < l.length
  · simp only [if_pos h] at hQ ⊢
    obtain ⟨x, hx⟩ : ∃ x, l[i.toNat]? = some x := ⟨l[i.toNat]'(by omega), by simp⟩
    have e : l.getD i.toNat 0 = x := by rw [List.getD_eq_getElem?_getD, hx]; rfl
    have hxf := hf.get hx
    rw [e] at hQ ⊢
    obtain ⟨s, hS⟩ := REnc.opn (hS.fd (REnc b))
    repeat' (first | (refine pN_neq_s ?_ ?_ <;> intro hc <;> try (exfalso; first | omega | exact hc rfl | exact hc (by assumption) | exact absurd hc (by assumption))) | refine pIf_f ?_ | refine pN_l hS (by first | rfl | assumption) ?_ | refine pN_via (by (intro K; simp (disch := omega) only [go_sem, pN_min, pN_max, w_u32, w_u64, Option.isNone_some, Option.isNone_none]; (try simp only [wrap_u32, wrap_u64]); rfl)) ?_ | fail)
    refine pc_pithref06_Bound (RBound_ok _ _ (by omega) (by omega) ?_)
    have hS := REnc.shut (b := b) (s := s) hS rfl rfl
    refine pc_pithref07_Encoder_cut (Rcut_ok hS (by omega) (by omega) _ bit (B.bound_pos r0 hxf.1) (B.bound_lt r0) fun w hS => ?_)
    refine pc_pithref06_Set_Turn (RTurn_ok (hS.fd (RSet p)) i bit fun w hS => ?_)
    simp only [if_pos h, e] at hS
    exact hQ _ hS.to
  · simp only [if_neg h] at hQ ⊢
    repeat' (first | (refine pN_neq_s ?_ ?_ <;> intro hc <;> try (exfalso; first | omega | exact hc rfl | exact hc (by assumption) | exact absurd hc (by assumption))) | refine pIf_t ?_ | refine pN_via (by (intro K; simp (disch := omega) only [go_sem, pN_min, pN_max, w_u32, w_u64, Option.isNone_some, Option.isNone_none]; (try simp only [wrap_u32, wrap_u64]); rfl)) ?_ | fail)
    exact hQ _ hS.to

theorem RBit_in {p : Nat} {l : List Int} (hS : Sat E w (REnc b st :: RSet p l :: M)) (ho : R.Ok st) (hf : B.Fine l) (hk : st.k + 10 ≤ 140737488355328) (i bit : Int) {x : Int} (h0 : 0 ≤ i) (hx : l[i.toNat]? = some x)
    (hQ : ∀ w, Sat E w (REnc b (st.cut (B.bound st.R x) bit) :: RSet p (l.set i.toNat (B.next x bit)) :: M) → Q (.int .i64 0) w) :
    Calls Try.prog 31 #[.pointer (some ⟨b, 0, none⟩), .pointer (some ⟨p, 0, none⟩), .int .i64 i, .int .i64 bit] w (retP Q) := by
  have hlt : i.toNat < l.length := (List.getElem?_eq_some_iff.1 hx).1
  refine RBit_ok hS ho hf hk i bit fun w hS => ?_
  have e : l.getD i.toNat 0 = x := by rw [List.getD_eq_getElem?_getD, hx]; rfl
  rw [if_pos (by omega), if_pos (by omega), e] at hS
  rw [if_pos (by omega)]
  exact hQ w hS

theorem RDirect_ok (hS : Sat E w (REnc b st :: M)) (ho : R.Ok st) (hk : st.k + 50 ≤ 140737488355328) (v n : Int) (v0 : 0 ≤ v) (v1 : v < 4294967296)
    (hQ : ∀ w, Sat E w (REnc b (if 0 ≤ n ∧ n ≤ 32 then st.direct v n.toNat else st) :: M) → Q (.int .i64 (if 0 ≤ n ∧ n ≤ 32 then 0 else 7)) w) :
    Calls Try.prog 32 #[.pointer (some ⟨b, 0, none⟩), .int .u32 v, .int .i64 n] w (retP Q) := by
  refine pithref07_Encoder_Direct.calls ?_
  unfold pithref07_Encoder_Direct.F
  by_cases h : 0 ≤ n ∧ n ≤ 32
  · simp only [if_pos h] at hQ ⊢
    repeat' (first | ((first | refine pN_lss_s ?_ ?_ | refine pN_gtr_s ?_ ?_) <;> intro hc <;> try (exfalso; omega)) | refine pIf_f ?_ | refine pGd_go (by rfl) ?_ | refine pN_via (by (intro K; simp (disch := omega) only [go_sem, pN_min, pN_max, w_u32, w_u64, Option.isNone_some, Option.isNone_none]; (try simp only [wrap_u32, wrap_u64]); rfl)) ?_ | fail)
    obtain ⟨m, rfl⟩ : ∃ m : Nat, n = m := ⟨n.toNat, by omega⟩
    rw [Int.toNat_natCast] at hQ
    refine ⟨fun i w => ∃ (j : Nat) (t : R.S), i = .int .i64 ((j : Int) - 1) ∧ j ≤ m ∧ R.Ok t ∧ t.k + j ≤ st.k + m ∧ t.direct v j = st.direct v m ∧ Sat E w (REnc b t :: M), fun i _ => (RowKit.intOf i + 1).toNat, ⟨m, st, rfl, by omega, ho, by omega, rfl, hS.to⟩, ?_⟩
    clear hS
    rintro _ _ w ⟨j, t, rfl, hj, hot, htk, htd, hS⟩
    have r0 := hot.r0
    have r1 := hot.r1
    by_cases hj0 : j = 0
    · subst hj0
      repeat' (first | (refine pN_geq_s ?_ ?_ <;> intro hc <;> try (exfalso; omega)) | refine pIf_f ?_ | fail)
      rw [← htd] at hQ
      exact hQ _ hS
    · obtain ⟨j, rfl⟩ : ∃ i, j = i + 1 := ⟨j - 1, by omega⟩
      rw [R.S.direct] at htd
      have hok := hot.one (v / 2 ^ j % 2)
      have hok1 := R.one_k hot (v / 2 ^ j % 2)
      rw [show ((j + 1 : Nat) : Int) - 1 = j from by omega]
      repeat' (first | (refine pN_geq_s ?_ ?_ <;> intro hc <;> try (exfalso; omega)) | refine pIf_t ?_ | fail)
      refine ⟨fun w => Sat E w (REnc b (t.one (v / 2 ^ j % 2)) :: M), ?_, ?_⟩
      · obtain ⟨s, hS⟩ := REnc.opn hS
        repeat' (first | refine pN_l hS (by first | rfl | assumption) ?_ | (refine pN_s hS (by first | exact Nat.le_of_ble_eq_true rfl | assumption) (by rfl) ?_; clear hS; intro w hS; try simp only [List.set_cons_zero, List.set_cons_succ] at hS) | refine pN_via (by (intro K; simp (disch := omega) only [go_sem, pN_min, pN_max, w_u32, w_u64, Option.isNone_some, Option.isNone_none]; (try simp only [wrap_u32, wrap_u64]); rfl)) ?_ | fail)
        refine ⟨fun w => Sat E w (REnc b (if v / 2 ^ j % 2 = 1 then ⟨t.N + t.R / 2, t.R / 2, t.k⟩ else ⟨t.N, t.R / 2, t.k⟩ : R.S) :: M), ?_, ?_⟩
        · have hv0 : 0 ≤ v / 2 ^ j := Int.ediv_nonneg v0 (Int.le_of_lt (Int.pow_pos (by omega)))
          refine pN_shr_k j rfl (by show _ ≤ 32; omega) ?_
          repeat' (first | (refine pN_eql_s ?_ ?_ <;> intro hc <;> try (exfalso; first | omega | exact hc rfl | exact hc (by assumption) | exact absurd hc (by assumption))) | refine pIf_t ?_ | refine pIf_f ?_ | refine pN_l hS (by first | rfl | assumption) ?_ | refine pN_via (by (intro K; simp (disch := omega) only [go_sem, pN_min, pN_max, w_u32, w_u64, Option.isNone_some, Option.isNone_none]; (try simp only [wrap_u32, wrap_u64]); rfl)) ?_ | fail)
          · rw [if_pos (by omega)]
            have hS := REnc.shut (b := b) (s := s) (st := ⟨t.N, t.R / 2, t.k⟩) hS rfl rfl
            refine pc_pithref07_Encoder_adds (adds_ok hS (by show t.k + 10 ≤ _; omega) _ (by omega) (by omega) fun w hS => hS)
          · rw [if_neg (by omega)]
            exact REnc.shut (b := b) (s := s) hS rfl rfl
        · clear hS
          intro _ w hS
          refine pc_pithref07_Encoder_widens (widens_ok hS ?_ ?_ ?_ fun w hS => hS)
          · split <;> (show 0 < t.R / 2; omega)
          · split <;> (show t.R / 2 < 4294967296; omega)
          · split <;> (show t.k + 10 ≤ _; omega)
      · clear hS
        intro _ w hS
        repeat' (first | refine pN_via (by (intro K; simp (disch := omega) only [go_sem, pN_min, pN_max, w_u32, w_u64, Option.isNone_some, Option.isNone_none]; (try simp only [wrap_u32, wrap_u64]); rfl)) ?_ | fail)
        exact ⟨⟨j, _, rfl, by omega, hok, by omega, htd, hS⟩, by simp [RowKit.intOf] <;> omega⟩
  · simp only [if_neg h] at hQ ⊢
    repeat' (first | ((first | refine pN_lss_s ?_ ?_ | refine pN_gtr_s ?_ ?_) <;> intro hc <;> try (exfalso; omega)) | refine pIf_t ?_ | refine pGd_go (by rfl) ?_ | refine pGd_no (by rfl) ?_ | refine pN_via (by (intro K; simp (disch := omega) only [go_sem, pN_min, pN_max, w_u32, w_u64, Option.isNone_some, Option.isNone_none]; (try simp only [wrap_u32, wrap_u64]); rfl)) ?_ | fail)
    all_goals exact hQ _ hS.to

theorem RSize_ok (hS : Sat E w (REnc b st :: M)) (hk : st.k ≤ 140737488355328) (hQ : ∀ w, Sat E w (REnc b st :: M) → Q (.int .i64 (st.k + 5 : Nat)) w) :
    Calls Try.prog 33 #[.pointer (some ⟨b, 0, none⟩)] w (retP Q) := by
  refine pithref07_Encoder_Size.calls ?_
  unfold pithref07_Encoder_Size.F
  obtain ⟨s, hS⟩ := REnc.opn hS
  repeat' (first | refine pN_l hS (by first | rfl | assumption) ?_ | refine pN_via (by (intro K; simp (disch := omega) only [go_sem, pN_min, pN_max, w_u32, w_u64, Option.isNone_some, Option.isNone_none]; (try simp only [wrap_u32, wrap_u64]); rfl)) ?_ | fail)
  exact hQ _ (REnc.shut (b := b) (s := s) hS rfl rfl)

theorem RBytes_ok (hS : Sat E w (REnc b st :: M)) (hk : st.k + 5 ≤ 140737488355328) (hQ : ∀ s w, Sat E w (rows cd_uint8 s st.bytes :: REnc b st :: M) → Q (.slice s.a st.bytes.length s.c) w) :
    Calls Try.prog 34 #[.pointer (some ⟨b, 0, none⟩)] w (retP Q) := by
  refine pithref07_Encoder_Bytes.calls ?_
  unfold pithref07_Encoder_Bytes.F
  obtain ⟨s0, hS⟩ := REnc.opn hS
  have hb := bytes_len st
  repeat' (first | refine pN_l hS (by first | rfl | assumption) ?_ | (refine pN_app0 hS (by first | rfl | omega | simpa only [go_sem] using True.intro | (simp only [go_sem]; omega)) (by first | omega | (simp only [go_sem]; omega)) ?_; clear hS; intro s w hS) | refine pN_via (by (intro K; simp (disch := omega) only [go_sem, pN_min, pN_max, w_u32, w_u64, Option.isNone_some, Option.isNone_none]; (try simp only [wrap_u32, wrap_u64]); rfl)) ?_ | fail)
  exact hQ s _ (REnc.shut (b := b) (s := s0) hS rfl rfl).to
end

end Go.Proofs.Ytoejaggkedlfmaa

namespace Go.Proofs.Ytoejaggkedlfmaa
open Go
set_option linter.unusedSimpArgs false
set_option linter.unnecessarySimpa false
set_option linter.unusedSectionVars false
set_option linter.unusedVariables false
attribute [local irreducible] oMv oV oU oCall oCallV oBi oBin oUn oLoad oStore oNil oFld oField oIdx oIndex oPick oAlloc oBox oBuild oBs oConv oMk oSl oExt oFn oIface oMap oLook oMapUp oRange oNext oAssert oPanic oRes pN pA pL pDr pIf gA pGd

namespace R
/-- The first k bits of a row of bits. -/
def bitL (bs : Nat → Int) (k : Nat) : List Int := (List.range k).map bs
/-- The first k steps of a way. -/
def wayL (at_ : Int) (bs : Nat → Int) (k : Nat) : List T_pithref09_Step := (List.range k).map fun j => ⟨at_ + node bs j, bs j⟩
theorem bitL_len (bs : Nat → Int) (k : Nat) : (bitL bs k).length = k := by simp [bitL]
theorem wayL_len (at_ : Int) (bs : Nat → Int) (k : Nat) : (wayL at_ bs k).length = k := by simp [wayL]
theorem bitL_snoc (bs : Nat → Int) (k : Nat) : bitL bs k ++ [bs k] = bitL bs (k + 1) := by simp [bitL, List.range_succ]
theorem wayL_snoc (at_ : Int) (bs : Nat → Int) (k : Nat) : wayL at_ bs k ++ [⟨at_ + node bs k, bs k⟩] = wayL at_ bs (k + 1) := by simp [wayL, List.range_succ]
theorem bitL_get {bs : Nat → Int} {k j : Nat} (h : j < k) : (bitL bs k)[j]? = some (bs j) := by simp [bitL, h]
theorem wayL_get {at_ : Int} {bs : Nat → Int} {k j : Nat} (h : j < k) : (wayL at_ bs k)[j]? = some ⟨at_ + node bs j, bs j⟩ := by simp [wayL, h]
end R

section
variable {E w : World} {M : List HA} {Q : Value → World → Prop} {b p : Nat} {s : R.S} {l : List Int}

theorem two_ok (n : Nat) (hn : n ≤ 16) (hQ : Q (.int .i64 (2 ^ n)) w) : Calls Try.prog 120 #[.int .i64 n] w (retP Q) := by
  refine pithref09_two.calls ?_
  unfold pithref09_two.F
  refine ⟨fun v i w' => ∃ j : Nat, v = .int .i64 (2 ^ j) ∧ i = .int .i64 j ∧ j ≤ n ∧ w' = w, fun _ i _ => n - (RowKit.intOf i).toNat, ⟨0, rfl, rfl, Nat.zero_le _, rfl⟩, ?_⟩
  rintro _ _ _ w1 ⟨j, rfl, rfl, hj, rfl⟩
  have h2 : (2 : Int) ^ j ≤ 2 ^ 16 := R.two_le (by omega)
  have h3 : (0 : Int) < 2 ^ j := Int.pow_pos (by omega)
  have e2 : (2 : Int) ^ 16 = 65536 := by decide
  repeat' (first | (refine pN_lss_s ?_ ?_ <;> intro hc <;> try (exfalso; omega)) | refine pIf_t ?_ | refine pIf_f ?_ | refine pN_via (by (intro K; simp (disch := omega) only [go_sem, pN_min, pN_max, w_u32, w_u64, Option.isNone_some, Option.isNone_none]; (try simp only [wrap_u32, wrap_u64]); rfl)) ?_ | fail)
  · exact ⟨⟨j + 1, by rw [Int.pow_succ, Int.mul_comm], rfl, by omega, rfl⟩, by simp [RowKit.intOf] <;> omega⟩
  · obtain rfl : j = n := by omega
    exact hQ

theorem Rthere_ok (hS : Sat E w (RSet p l :: M)) (hl : l.length ≤ 1048576) (at_ n : Int) (hQ : ∀ w, Sat E w (RSet p l :: M) → Q (.bool (decide (R.There l.length at_ n))) w) : Calls Try.prog 119 #[.pointer (some ⟨p, 0, none⟩), .int .i64 at_, .int .i64 n] w (retP Q) := by
  refine pithref09_There.calls ?_
  unfold pithref09_There.F
  obtain ⟨sl, hS⟩ := RSet.opn hS
  have fin : ∀ w b, (b = true ↔ R.There l.length at_ n) → Sat E w (RSet p l :: M) → Q (.bool b) w := by
    intro w b hb hS
    have := hQ w hS
    by_cases h : R.There l.length at_ n
    · rw [decide_eq_true h] at this
      rw [hb.2 h]; exact this
    · rw [decide_eq_false h] at this
      have : b = false := by
        cases b
        · rfl
        · exact absurd (hb.1 rfl) h
      rw [this]; assumption
  have two : ∀ (w : World) (K : Value → World → Prop), 0 ≤ n → n ≤ 16 → K (.int .i64 (2 ^ n.toNat)) w → pN Try.prog (oCall 120 [.int .i64 n]) w K := by
    intro w K h0 h1 h
    obtain ⟨m, rfl⟩ : ∃ m : Nat, n = m := ⟨n.toNat, by omega⟩
    exact pc_pithref09_two (two_ok m (by omega) h)
  have h3 : 0 ≤ n → n ≤ 16 → (0 : Int) < 2 ^ n.toNat ∧ (2 : Int) ^ n.toNat ≤ 65536 := fun a b => ⟨Int.pow_pos (by omega), by
    rw [show (65536 : Int) = 2 ^ 16 from by decide]; exact R.two_le (by omega)⟩
  repeat' (first | refine two _ _ (by omega) (by omega) ?_ | ((first | refine pA_leq_s ?_ ?_ | refine pA_geq_s ?_ ?_) <;> intro hc <;> try (exfalso; omega)) | refine gA_go (by rfl) ?_ | refine gA_no (by rfl) ?_ | refine pGd_go (by rfl) ?_ | refine pGd_no (by rfl) ?_ | refine pL_l hS (by first | rfl | assumption) ?_ | (refine pDr_go hS ?_; clear hS; intro w hS) | refine ⟨⟨(by first | exact run_l hS (by first | rfl | assumption) | exact run_st hS (by first | rfl | omega) | exact run_ld1 ha hS | exact fun _ => run_l hS (by rfl) | exact fun _ => run_st hS (by first | rfl | omega) | exact fun _ => run_ld1 ha hS | exact fun h => Bool.noConfusion h), trivial⟩, ?_⟩ | refine pA_via (by (intro K; simp (disch := omega) only [go_sem, pN_min, pN_max, w_u32, w_u64, Option.isNone_some, Option.isNone_none]; (try simp only [wrap_u32, wrap_u64]); rfl)) ?_ | fail)
  all_goals
    refine fin _ _ ?_ (RSet.shut (b := p) (s := sl) hS rfl)
    unfold R.There
    first
      | (refine ⟨fun _ => (by omega), fun _ => rfl⟩)
      | (refine ⟨fun h => (by cases h), fun h => (by omega)⟩)

theorem refused_ok (hS : Sat E w (RSet p l :: M)) (hl : l.length ≤ 1048576) (at_ n v : Int) (hQ : ∀ w, Sat E w (RSet p l :: M) → Q (.bool (!decide (R.There l.length at_ n ∧ R.Holds v n))) w) :
    Calls Try.prog 114 #[.pointer (some ⟨p, 0, none⟩), .int .i64 at_, .int .i64 n, .int .i64 v] w (retP Q) := by
  refine pithref09_refused.calls ?_
  unfold pithref09_refused.F
  have fin : ∀ w b, (b = false ↔ R.There l.length at_ n ∧ R.Holds v n) → Sat E w (RSet p l :: M) → Q (.bool b) w := by
    intro w b hb hS
    have := hQ w hS
    by_cases h : R.There l.length at_ n ∧ R.Holds v n
    · rw [decide_eq_true h] at this
      rw [hb.2 h]; exact this
    · rw [decide_eq_false h] at this
      have : b = true := by
        cases b
        · exact absurd (hb.1 rfl) h
        · rfl
      rw [this]; assumption
  by_cases ht : R.There l.length at_ n
  · have ht' := ht
    obtain ⟨n0, n1, a0, a1, a2⟩ := ht'
    have t1 : decide (R.There l.length at_ n) = true := decide_eq_true ht
    refine pc_pithref09_There (Rthere_ok hS hl at_ n ?_)
    rw [t1]
    clear hS
    intro w hS
    obtain ⟨m, rfl⟩ : ∃ m : Nat, n = m := ⟨n.toNat, by omega⟩
    repeat' (first | refine pc_pithref09_two (two_ok m (by omega) ?_) | ((first | refine pN_lss_s ?_ ?_ | refine pN_geq_s ?_ ?_) <;> intro hc <;> try (exfalso; omega)) | refine pGd_go (by rfl) ?_ | refine pGd_no (by rfl) ?_ | refine pN_via (by (intro K; simp (disch := omega) only [go_sem, pN_min, pN_max, w_u32, w_u64, Option.isNone_some, Option.isNone_none]; (try simp only [wrap_u32, wrap_u64]); rfl)) ?_ | fail)
    all_goals
      refine fin _ _ ?_ hS
      unfold R.Holds
      rw [Int.toNat_natCast]
      first
        | (refine ⟨fun _ => ⟨ht, (by omega)⟩, fun _ => rfl⟩)
        | (refine ⟨fun h => (by cases h), fun h => (by omega)⟩)
  · have t1 : decide (R.There l.length at_ n) = false := decide_eq_false ht
    refine pc_pithref09_There (Rthere_ok hS hl at_ n ?_)
    rw [t1]
    clear hS
    intro w hS
    repeat' (first | refine pGd_no (by rfl) ?_ | refine pN_via (by (intro K; simp (disch := omega) only [go_sem, pN_min, pN_max, w_u32, w_u64, Option.isNone_some, Option.isNone_none]; (try simp only [wrap_u32, wrap_u64]); rfl)) ?_ | fail)
    refine fin _ _ ⟨fun h => (by cases h), fun h => absurd h.1 ht⟩ hS

theorem bits_ok (hS : Sat E w M) (n : Nat) (hn : n ≤ 16) (v : Int) (v0 : 0 ≤ v) (v1 : v < 9223372036854775808) (back : Bool) (hQ : ∀ s w, Sat E w (rows cd_int s (R.bitL (R.bitAt back n v) n) :: M) → Q (.slice s.a n s.c) w) :
    Calls Try.prog 116 #[.int .i64 n, .int .i64 v, .bool back] w (retP Q) := by
  refine pithref09_bits.calls ?_
  unfold pithref09_bits.F
  have hS : Sat E w (rows cd_int ⟨none, 0⟩ (R.bitL (R.bitAt back n v) 0) :: M) := hS.nil 3 1
  refine ⟨fun x i w => ∃ (j : Nat) (s : Sl), x = .slice s.a j s.c ∧ i = .int .i64 j ∧ j ≤ n ∧ Sat E w (rows cd_int s (R.bitL (R.bitAt back n v) j) :: M), fun _ i _ => n - (RowKit.intOf i).toNat, ⟨0, _, rfl, rfl, Nat.zero_le _, hS⟩, ?_⟩
  clear hS
  rintro _ _ _ w ⟨j, s, rfl, rfl, hj, hS⟩
  have hlen := R.bitL_len (R.bitAt back n v) j
  repeat' (first | (refine pN_lss_s ?_ ?_ <;> intro hc <;> try (exfalso; omega)) | refine pIf_t ?_ | refine pIf_f ?_ | fail)
  · refine ⟨fun x w => ∃ s : Sl, x = .slice s.a (j + 1 : Nat) s.c ∧ Sat E w (rows cd_int s (R.bitL (R.bitAt back n v) (j + 1)) :: M), ?_, ?_⟩
    · repeat' (first | refine pN_via (by (intro K; simp (disch := omega) only [go_sem, pN_min, pN_max, w_u32, w_u64, Option.isNone_some, Option.isNone_none]; (try simp only [wrap_u32, wrap_u64]); rfl)) ?_ | fail)
      refine ⟨fun x w => x = .int .i64 (if back then j else n - 1 - j : Nat) ∧ Sat E w (rows cd_int s (R.bitL (R.bitAt back n v) j) :: M), ?_, ?_⟩
      · cases back
        · repeat' (first | refine pIf_f ?_ | fail)
          exact ⟨congrArg (Value.int .i64) (by simp only [Bool.false_eq_true, if_false]; omega), hS⟩
        · repeat' (first | refine pIf_t ?_ | fail)
          exact ⟨rfl, hS⟩
      clear hS
      rintro _ _ w ⟨rfl, hS⟩
      refine pc_pithref09_two (two_ok _ (by split <;> omega) ?_)
      have q0 : 0 ≤ v / 2 ^ (if back then j else n - 1 - j) := Int.ediv_nonneg v0 (Int.le_of_lt (Int.pow_pos (by omega)))
      have q1 : v / 2 ^ (if back then j else n - 1 - j) ≤ v := Int.ediv_le_self _ v0
      have q2 : (0 : Int) < 2 ^ (if back then j else n - 1 - j) := Int.pow_pos (by omega)
      have eb : v / 2 ^ (if back then j else n - 1 - j) % 2 = R.bitAt back n v j := rfl
      repeat' (first | (refine pN_b1 hS (by rfl) (by decide) ?_; clear hS; intro s w hS) | (refine pN_app hS (by first | rfl | omega | simpa only [go_sem] using True.intro | (simp only [go_sem]; omega)) (by first | rfl | omega | simpa only [go_sem] using True.intro | (simp only [go_sem]; omega)) (by first | omega | (simp only [go_sem]; omega)) ?_; clear hS; intro s w hS) | refine pN_via (by (intro K; simp (disch := omega) only [go_sem, pN_min, pN_max, w_u32, w_u64, Option.isNone_some, Option.isNone_none]; (try simp only [wrap_u32, wrap_u64]); rfl)) ?_ | fail)
      rw [eb, R.bitL_snoc] at hS
      exact ⟨_, congrArg (fun k : Nat => Value.slice _ k _) (by simp only [List.length_append, hlen, List.length_cons, List.length_nil]), hS.to⟩
    · clear hS
      rintro _ _ w ⟨s, rfl, hS⟩
      repeat' (first | refine pN_via (by (intro K; simp (disch := omega) only [go_sem, pN_min, pN_max, w_u32, w_u64, Option.isNone_some, Option.isNone_none]; (try simp only [wrap_u32, wrap_u64]); rfl)) ?_ | fail)
      exact ⟨⟨j + 1, s, rfl, rfl, by omega, hS⟩, by simp [RowKit.intOf] <;> omega⟩
  · obtain rfl : j = n := by omega
    exact hQ _ _ hS
theorem Way_ok {s : Sl} (n : Nat) (at_ : Int) (bs : Nat → Int) (hb : ∀ k, 0 ≤ bs k ∧ bs k ≤ 1) (hS : Sat E w (rows cd_int s (R.bitL bs n) :: M)) (hn : n ≤ 17) (a0 : 0 ≤ at_) (a1 : at_ ≤ 1099511627776)
    (hQ : ∀ t w, Sat E w (rows cd_pithref09_Step t (R.wayL at_ bs n) :: rows cd_int s (R.bitL bs n) :: M) → Q (.slice t.a n t.c) w) :
    Calls Try.prog 115 #[.int .i64 at_, .slice s.a n s.c] w (retP Q) := by
  refine pithref09_Way.calls ?_
  unfold pithref09_Way.F
  have hS : Sat E w (rows cd_pithref09_Step ⟨none, 0⟩ (R.wayL at_ bs 0) :: rows cd_int s (R.bitL bs n) :: M) := hS.nil 175 2
  refine ⟨fun x m i w => ∃ (j : Nat) (t : Sl), x = .slice t.a j t.c ∧ m = .int .i64 (R.node bs j) ∧ i = .int .i64 j ∧ j ≤ n ∧ Sat E w (rows cd_pithref09_Step t (R.wayL at_ bs j) :: rows cd_int s (R.bitL bs n) :: M), fun _ _ i _ => n - (RowKit.intOf i).toNat, ⟨0, _, rfl, rfl, rfl, Nat.zero_le _, hS⟩, ?_⟩
  clear hS
  rintro _ _ _ _ w ⟨j, t, rfl, rfl, rfl, hj, hS⟩
  have hlen := R.wayL_len at_ bs j
  have hlen2 := R.bitL_len bs n
  have hm := R.node_lo hb j
  have h2 : (2 : Int) ^ (j + 1) ≤ 2 ^ 18 := R.two_le (by omega)
  have h3 : (0 : Int) < 2 ^ j := Int.pow_pos (by omega)
  have e2 : (2 : Int) ^ 18 = 262144 := by decide
  have hbj := hb j
  by_cases hlt : j < n
  · have hx := R.bitL_get (bs := bs) hlt
    have hnode : R.node bs (j + 1) = 2 * R.node bs j + bs j := rfl
    repeat' (first | (refine pN_b1 (x := (⟨at_ + R.node bs j, bs j⟩ : T_pithref09_Step)) hS (by rfl) (by decide) ?_; clear hS; intro t2 w hS) | (refine pN_lss_s ?_ ?_ <;> intro hc <;> try (exfalso; omega)) | refine pIf_t ?_ | refine pN_ld1 ha hS ?_ | refine pN_ixk hS _ (by first | rfl | (exact (Int.toNat_of_nonneg (by omega)).symm)) (by first | rfl | omega | simpa only [go_sem] using True.intro | (simp only [go_sem]; omega)) (by assumption) fun a ha hel => ?_ | (refine pN_app hS (by first | rfl | omega | simpa only [go_sem] using True.intro | (simp only [go_sem]; omega)) (by first | rfl | omega | simpa only [go_sem] using True.intro | (simp only [go_sem]; omega)) (by first | omega | (simp only [go_sem]; omega)) ?_; clear hS; intro s w hS) | refine pN_via (by (intro K; simp (disch := omega) only [go_sem, pN_min, pN_max, w_u32, w_u64, Option.isNone_some, Option.isNone_none]; (try simp only [wrap_u32, wrap_u64]); rfl)) ?_ | fail)
    rw [R.wayL_snoc] at hS
    refine ⟨⟨j + 1, _, congrArg (fun k : Nat => Value.slice _ k _) (by simp only [List.length_append, hlen, List.length_cons, List.length_nil]), by rw [hnode], rfl, by omega, hS.to⟩, by simp [RowKit.intOf] <;> omega⟩
  · obtain rfl : j = n := by omega
    repeat' (first | (refine pN_lss_s ?_ ?_ <;> intro hc <;> try (exfalso; omega)) | refine pIf_f ?_ | refine pN_via (by (intro K; simp (disch := omega) only [go_sem, pN_min, pN_max, w_u32, w_u64, Option.isNone_some, Option.isNone_none]; (try simp only [wrap_u32, wrap_u64]); rfl)) ?_ | fail)
    exact hQ _ _ hS

theorem RPut_ok (hS : Sat E w (REnc b s :: RSet p l :: M)) (ho : R.Ok s) (hf : B.Fine l) (hs : s.k + 100 ≤ 140737488355328) (at_ n v : Int) (v1 : v < 9223372036854775808) (back : Bool) (hl : l.length ≤ 1048576)
    (hQ : ∀ w, Sat E w (REnc b (if R.There l.length at_ n ∧ R.Holds v n then R.TS.put ⟨s, l⟩ at_ (R.bitAt back n.toNat v) n.toNat else ⟨s, l⟩).s :: RSet p (if R.There l.length at_ n ∧ R.Holds v n then R.TS.put ⟨s, l⟩ at_ (R.bitAt back n.toNat v) n.toNat else ⟨s, l⟩).l :: M) →
      Q (.int .i64 (if R.There l.length at_ n ∧ R.Holds v n then 0 else 7)) w) :
    Calls Try.prog 99 #[.pointer (some ⟨b, 0, none⟩), .pointer (some ⟨p, 0, none⟩), .int .i64 at_, .int .i64 n, .int .i64 v, .bool back] w (retP Q) := by
  refine pithref09_Put.calls ?_
  unfold pithref09_Put.F
  refine pc_pithref09_refused (refused_ok (hS.fd (RSet p)) hl at_ n v ?_)
  clear hS
  intro w hS
  by_cases hc : R.There l.length at_ n ∧ R.Holds v n
  · simp only [if_pos hc] at hQ
    rw [decide_eq_true hc]
    obtain ⟨⟨n0, n1, a0, a1, a2⟩, v0, v2⟩ := hc
    have ht : R.There l.length at_ n := ⟨n0, n1, a0, a1, a2⟩
    obtain ⟨m, rfl⟩ : ∃ m : Nat, n = m := ⟨n.toNat, by omega⟩
    rw [Int.toNat_natCast] at hQ
    have hb := R.bitAt_01 back m v
    have oa : R.TS.Ok ⟨s, l⟩ := ⟨ho, hf⟩
    repeat' (first | refine pIf_f ?_ | fail)
    refine pc_pithref09_bits (bits_ok hS m (by omega) v v0 v1 back ?_)
    clear hS
    intro bl w hS
    refine pc_pithref09_Way (Way_ok m at_ (R.bitAt back m v) hb hS (by omega) a0 (by omega) ?_)
    clear hS
    intro t w hS
    refine ⟨fun i w => ∃ k : Nat, i = .int .i64 k ∧ k ≤ m ∧ Sat E w (REnc b (R.TS.put ⟨s, l⟩ at_ (R.bitAt back m v) k).s :: RSet p (R.TS.put ⟨s, l⟩ at_ (R.bitAt back m v) k).l :: rows cd_pithref09_Step t (R.wayL at_ (R.bitAt back m v) m) :: M), fun i _ => m - (RowKit.intOf i).toNat, ⟨0, rfl, Nat.zero_le _, by simp only [R.TS.put]; exact hS.to⟩, ?_⟩
    clear hS
    rintro _ _ w ⟨k, rfl, hk, hS⟩
    have hlen := R.wayL_len at_ (R.bitAt back m v) m
    by_cases hlt : k < m
    · have hx := R.wayL_get (at_ := at_) (bs := R.bitAt back m v) hlt
      have ⟨o1, o2⟩ := oa.put ht hb k (by rw [Int.toNat_natCast]; omega)
      have hp := ht.place hb (k := k) (by rw [Int.toNat_natCast]; omega)
      have hpl := R.TS.put_len ⟨s, l⟩ at_ (R.bitAt back m v) k
      have hnx : R.TS.put ⟨s, l⟩ at_ (R.bitAt back m v) (k + 1) = (R.TS.put ⟨s, l⟩ at_ (R.bitAt back m v) k).bit (at_ + R.node (R.bitAt back m v) k) (R.bitAt back m v k) := rfl
      simp only at o2 hpl
      generalize R.TS.put ⟨s, l⟩ at_ (R.bitAt back m v) k = u at o1 o2 hpl hnx hS
      obtain ⟨u, q⟩ := u
      simp only at o2 hpl hS
      have hz : q[(at_ + R.node (R.bitAt back m v) k).toNat]? = some (q.getD (at_ + R.node (R.bitAt back m v) k).toNat 0) := by
        rw [List.getD_eq_getElem?_getD, List.getElem?_eq_getElem (show (at_ + R.node (R.bitAt back m v) k).toNat < q.length by omega)]; rfl
      repeat' (first | (refine pc_pithref07_Encoder_Bit (RBit_in (hS.fd2 (REnc b) (RSet p)) o1.s o1.f (by omega) _ _ hp.1 hz ?_); clear hS; intro w hS) | (refine pN_lss_s ?_ ?_ <;> intro hc <;> try (exfalso; omega)) | refine pIf_t ?_ | refine pL_ld1 ha hS ?_ | refine pA_fa ha (by rfl) fun a ha => ?_ | (refine pDr_go hS ?_; clear hS; intro w hS) | refine ⟨trivial, ?_⟩ | refine pA_ixk hS _ (by first | rfl | (exact (Int.toNat_of_nonneg (by omega)).symm)) (by first | rfl | omega | simpa only [go_sem] using True.intro | (simp only [go_sem]; omega)) (by assumption) fun a ha hel => ?_ | refine pN_via (by (intro K; simp (disch := omega) only [go_sem, pN_min, pN_max, w_u32, w_u64, Option.isNone_some, Option.isNone_none]; (try simp only [wrap_u32, wrap_u64]); rfl)) ?_ | fail)
      refine ⟨⟨k + 1, rfl, by omega, ?_⟩, by simp [RowKit.intOf] <;> omega⟩
      rw [hnx]
      simp only [R.TS.bit]
      dsimp only at hS
      exact hS.to
    · obtain rfl : k = m := by omega
      repeat' (first | (refine pN_lss_s ?_ ?_ <;> intro hc <;> try (exfalso; omega)) | refine pIf_f ?_ | refine pN_via (by (intro K; simp (disch := omega) only [go_sem, pN_min, pN_max, w_u32, w_u64, Option.isNone_some, Option.isNone_none]; (try simp only [wrap_u32, wrap_u64]); rfl)) ?_ | fail)
      exact hQ _ hS.to
  · simp only [if_neg hc] at hQ
    rw [decide_eq_false hc]
    repeat' (first | refine pIf_t ?_ | fail)
    exact hQ _ hS.to

theorem RCostW_ok (hS : Sat E w (RSet p l :: M)) (at_ n v : Int) (v1 : v < 9223372036854775808) (back : Bool) (hl : l.length ≤ 1048576)
    (hQ : ∀ w, Sat E w (RSet p l :: M) → Q (.tuple #[.int .i64 (if R.There l.length at_ n ∧ R.Holds v n then R.costs l at_ (R.bitAt back n.toNat v) n.toNat else 0), .int .i64 (if R.There l.length at_ n ∧ R.Holds v n then 0 else 7)]) w) :
    Calls Try.prog 100 #[.pointer (some ⟨p, 0, none⟩), .int .i64 at_, .int .i64 n, .int .i64 v, .bool back] w (retP Q) := by
  refine pithref09_Cost.calls ?_
  unfold pithref09_Cost.F
  refine pc_pithref09_refused (refused_ok (hS.fd (RSet p)) hl at_ n v ?_)
  clear hS
  intro w hS
  by_cases hc : R.There l.length at_ n ∧ R.Holds v n
  · simp only [if_pos hc] at hQ
    rw [decide_eq_true hc]
    obtain ⟨⟨n0, n1, a0, a1, a2⟩, v0, v2⟩ := hc
    have ht : R.There l.length at_ n := ⟨n0, n1, a0, a1, a2⟩
    obtain ⟨m, rfl⟩ : ∃ m : Nat, n = m := ⟨n.toNat, by omega⟩
    rw [Int.toNat_natCast] at hQ
    have hb := R.bitAt_01 back m v
    repeat' (first | refine pIf_f ?_ | fail)
    refine pc_pithref09_bits (bits_ok hS m (by omega) v v0 v1 back ?_)
    clear hS
    intro bl w hS
    refine pc_pithref09_Way (Way_ok m at_ (R.bitAt back m v) hb hS (by omega) a0 (by omega) ?_)
    clear hS
    intro t w hS
    refine ⟨fun sum i w => ∃ k : Nat, sum = .int .i64 (R.costs l at_ (R.bitAt back m v) k) ∧ i = .int .i64 k ∧ k ≤ m ∧ Sat E w (RSet p l :: rows cd_pithref09_Step t (R.wayL at_ (R.bitAt back m v) m) :: M), fun _ i _ => m - (RowKit.intOf i).toNat, ⟨0, rfl, rfl, Nat.zero_le _, hS.to⟩, ?_⟩
    clear hS
    rintro _ _ _ w ⟨k, rfl, rfl, hk, hS⟩
    have hlen := R.wayL_len at_ (R.bitAt back m v) m
    by_cases hlt : k < m
    · have hx := R.wayL_get (at_ := at_) (bs := R.bitAt back m v) hlt
      have hp := ht.place hb (k := k) (by rw [Int.toNat_natCast]; omega)
      have hsm := R.costs_small l at_ (R.bitAt back m v) k
      have hnx : R.costs l at_ (R.bitAt back m v) (k + 1) = R.costs l at_ (R.bitAt back m v) k + B.cost (l.getD (at_ + R.node (R.bitAt back m v) k).toNat 0) (R.bitAt back m v k) := rfl
      have hcs := B.cost_small (l.getD (at_ + R.node (R.bitAt back m v) k).toNat 0) (R.bitAt back m v k)
      have hin : 0 ≤ at_ + R.node (R.bitAt back m v) k ∧ at_ + R.node (R.bitAt back m v) k < l.length := ⟨hp.1, by omega⟩
      repeat' (first | (refine pc_pithref06_Set_At (RAt_ok (hS.fd (RSet p)) (at_ + R.node (R.bitAt back m v) k) ?_); simp only [if_pos hin]; clear hS; intro w hS) | refine pc_pithref06_Cost (RCost_ok _ _ ?_) | (refine pN_lss_s ?_ ?_ <;> intro hc <;> try (exfalso; omega)) | refine pIf_t ?_ | refine pN_ld1 ha hS ?_ | refine pN_fa ha (by rfl) fun a ha => ?_ | refine pN_ixk hS _ (by first | rfl | (exact (Int.toNat_of_nonneg (by omega)).symm)) (by first | rfl | omega | simpa only [go_sem] using True.intro | (simp only [go_sem]; omega)) (by assumption) fun a ha hel => ?_ | refine pN_via (by (intro K; simp (disch := omega) only [go_sem, pN_min, pN_max, w_u32, w_u64, Option.isNone_some, Option.isNone_none]; (try simp only [wrap_u32, wrap_u64]); rfl)) ?_ | fail)
      refine ⟨⟨k + 1, by rw [hnx], rfl, by omega, hS.to⟩, by simp [RowKit.intOf] <;> omega⟩
    · obtain rfl : k = m := by omega
      repeat' (first | (refine pN_lss_s ?_ ?_ <;> intro hc <;> try (exfalso; omega)) | refine pIf_f ?_ | refine pN_via (by (intro K; simp (disch := omega) only [go_sem, pN_min, pN_max, w_u32, w_u64, Option.isNone_some, Option.isNone_none]; (try simp only [wrap_u32, wrap_u64]); rfl)) ?_ | fail)
      exact hQ _ hS.to
  · simp only [if_neg hc] at hQ
    rw [decide_eq_false hc]
    repeat' (first | refine pIf_t ?_ | fail)
    exact hQ _ hS.to
end

end Go.Proofs.Ytoejaggkedlfmaa

namespace Go.Proofs.Ytoejaggkedlfmaa
open Go
set_option linter.unusedSimpArgs false
set_option linter.unnecessarySimpa false
set_option linter.unusedSectionVars false
set_option linter.unusedVariables false
attribute [local irreducible] oMv oV oU oCall oCallV oBi oBin oUn oLoad oStore oNil oFld oField oIdx oIndex oPick oAlloc oBox oBuild oBs oConv oMk oSl oExt oFn oIface oMap oLook oMapUp oRange oNext oAssert oPanic oRes pN pA pL pDr pIf gA pGd

/-- A row on both sides. -/
def pairH (x : (Nat × Nat) × List Int) : HA := fun h => Sats [PSet x.1.1 x.2, RSet x.1.2 x.2] h
/-- All rows on both sides. -/
def bagL (ps : List (Nat × Nat)) (ls : List (List Int)) : HA := bag ((ps.zip ls).map pairH)
def ptrP (x : Nat × Nat) : Option Addr := some ⟨x.1, 0, none⟩
def ptrR (x : Nat × Nat) : Option Addr := some ⟨x.2, 0, none⟩
/-- The lists of rows in block b. -/
def Hdr (b : Nat) (ps : List (Nat × Nat)) : HA := fun h => ∃ x : Sl × Sl, Sats [cel b ⟨130, [.slice x.1.a ps.length x.1.c, .slice x.2.a ps.length x.2.c]⟩, rows cd_p_prob_Set x.1 (ps.map ptrP), rows cd_p_pithref06_Set x.2 (ps.map ptrR)] h
/-- What is known of the rows. -/
structure RowsOk (ps : List (Nat × Nat)) (ls : List (List Int)) : Prop where
  len : ls.length = ps.length
  fine : ∀ l ∈ ls, B.Fine l
  small : ∀ l ∈ ls, l.length ≤ 4096

section
variable {E w : World} {M : List HA} {Q : Value → World → Prop} {b : Nat} {ps : List (Nat × Nat)} {ls : List (List Int)} {l : List Int}

theorem Hdr.opn (hS : Sat E w (Hdr b ps :: M)) : ∃ x : Sl × Sl, Sat E w (cel b ⟨130, [.slice x.1.a ps.length x.1.c, .slice x.2.a ps.length x.2.c]⟩ :: rows cd_p_prob_Set x.1 (ps.map ptrP) :: rows cd_p_pithref06_Set x.2 (ps.map ptrR) :: M) := by
  obtain ⟨s, hS⟩ := hS.ex
  exact ⟨s, hS.open_ (M := [_, _, _]) fun _ h => h⟩
theorem Hdr.shut {s t : Sl} (hS : Sat E w (cel b ⟨130, [.slice s.a ps.length s.c, .slice t.a ps.length t.c]⟩ :: rows cd_p_prob_Set s (ps.map ptrP) :: rows cd_p_pithref06_Set t (ps.map ptrR) :: M)) : Sat E w (Hdr b ps :: M) :=
  Sat.shut (M := [_, _, _]) hS fun _ h => ⟨(s, t), h⟩

theorem Hdr.grow {s t : Sl} {p r : Nat} (hS : Sat E w (cel b ⟨130, [.slice s.a (ps.map ptrP ++ [(some ⟨p, 0, none⟩ : Option Addr)]).length s.c, .slice t.a (ps.map ptrR ++ [(some ⟨r, 0, none⟩ : Option Addr)]).length t.c]⟩ ::
    rows cd_p_prob_Set s (ps.map ptrP ++ [(some ⟨p, 0, none⟩ : Option Addr)]) :: rows cd_p_pithref06_Set t (ps.map ptrR ++ [(some ⟨r, 0, none⟩ : Option Addr)]) :: M)) : Sat E w (Hdr b (ps ++ [(p, r)]) :: M) := by
  have e1 : ps.map ptrP ++ [(some ⟨p, 0, none⟩ : Option Addr)] = (ps ++ [(p, r)]).map ptrP := by simp [ptrP]
  have e2 : ps.map ptrR ++ [(some ⟨r, 0, none⟩ : Option Addr)] = (ps ++ [(p, r)]).map ptrR := by simp [ptrR]
  rw [e1, e2, List.length_map, List.length_map] at hS
  exact Hdr.shut hS

theorem zip_get {i : Nat} {p : Nat × Nat} (hp : ps[i]? = some p) (hl : ls[i]? = some l) : ((ps.zip ls).map pairH)[i]? = some (pairH (p, l)) := by
  rw [List.getElem?_map, (List.getElem?_zip_eq_some (z := (p, l))).2 ⟨hp, hl⟩]; rfl
theorem zip_set0 : ∀ (ps : List (Nat × Nat)) (ls : List (List Int)) (i : Nat) (p : Nat × Nat), ps[i]? = some p → ∀ l : List Int, (ps.zip ls).set i (p, l) = ps.zip (ls.set i l)
  | [], _, i, p, h, _ => by simp at h
  | q :: ps, [], i, p, h, l => by simp
  | q :: ps, m :: ls, 0, p, h, l => by
    simp at h
    subst h
    rfl
  | q :: ps, m :: ls, i + 1, p, h, l => by
    have := zip_set0 ps ls i p (by simpa using h) l
    simp only [List.zip_cons_cons, List.set_cons_succ, this]
theorem zip_set (i : Nat) {p : Nat × Nat} (hp : ps[i]? = some p) (l : List Int) : ((ps.zip ls).map pairH).set i (pairH (p, l)) = (ps.zip (ls.set i l)).map pairH := by
  rw [← zip_set0 ps ls i p hp l, List.map_set]
theorem bagL.out {i : Nat} {p : Nat × Nat} (hS : Sat E w (bagL ps ls :: M)) (hp : ps[i]? = some p) (hl : ls[i]? = some l) :
    Sat E w (PSet p.1 l :: RSet p.2 l :: bag (((ps.zip ls).map pairH).eraseIdx i) :: M) := by
  have h := Sat.out hS i (zip_get hp hl)
  exact h.open_ (M := [_, _]) fun _ h => h
theorem bagL.into {i : Nat} {p : Nat × Nat} {m : List Int} (hS : Sat E w (PSet p.1 m :: RSet p.2 m :: bag (((ps.zip ls).map pairH).eraseIdx i) :: M)) (hp : ps[i]? = some p) (hl : ls[i]? = some l) :
    Sat E w (bagL ps (ls.set i m) :: M) := by
  have h1 : Sat E w (pairH (p, m) :: bag (((ps.zip ls).map pairH).eraseIdx i) :: M) := Sat.shut (M := [_, _]) hS fun _ h => h
  have h2 := Sat.into h1 (zip_get hp hl)
  rw [zip_set i hp m] at h2
  exact h2
theorem bagL.snoc {p : Nat × Nat} (hS : Sat E w (PSet p.1 l :: RSet p.2 l :: bagL ps ls :: M)) (h : ls.length = ps.length) : Sat E w (bagL (ps ++ [p]) (ls ++ [l]) :: M) := by
  have h1 : Sat E w (pairH (p, l) :: bag ((ps.zip ls).map pairH) :: M) := Sat.shut (M := [_, _]) hS fun _ h => h
  have h2 := Sat.bag_snoc h1
  have e : (ps ++ [p]).zip (ls ++ [l]) = ps.zip ls ++ [(p, l)] := by rw [List.zip_append h.symm]; rfl
  unfold bagL
  rw [e, List.map_append]
  exact h2
theorem RowsOk.snoc (h : RowsOk ps ls) (p : Nat × Nat) {n : Nat} (hn : n ≤ 4096) : RowsOk (ps ++ [p]) (ls ++ [List.replicate n 1024]) := by
  obtain ⟨h1, h2, h3⟩ := h
  refine ⟨by simp [h1], fun l hl => ?_, fun l hl => ?_⟩
  · rcases List.mem_append.1 hl with hl | hl
    · exact h2 l hl
    · rw [List.mem_singleton.1 hl]; exact B.Fine.new n
  · rcases List.mem_append.1 hl with hl | hl
    · exact h3 l hl
    · rw [List.mem_singleton.1 hl, List.length_replicate]; exact hn
theorem RowsOk.set (h : RowsOk ps ls) (i : Nat) {l : List Int} (hf : B.Fine l) (hl : l.length ≤ 4096) : RowsOk ps (ls.set i l) := by
  obtain ⟨h1, h2, h3⟩ := h
  refine ⟨by simp [h1], fun m hm => ?_, fun m hm => ?_⟩
  · rcases List.mem_or_eq_of_mem_set hm with hm | rfl
    · exact h2 m hm
    · exact hf
  · rcases List.mem_or_eq_of_mem_set hm with hm | rfl
    · exact h3 m hm
    · exact hl

/-- How many probabilities the i-th row has; the rows. -/
def rawLen (lens : List Int) (i : Nat) : Int := if i < lens.length then lens.getD i 0 else 8
def rowLen (lens : List Int) (i : Nat) : Nat := if rawLen lens i < 0 ∨ 4096 < rawLen lens i then 4096 else (rawLen lens i).toNat
def madeL (lens : List Int) : Nat → List (List Int)
  | 0 => []
  | i + 1 => madeL lens i ++ [List.replicate (rowLen lens i) 1024]

theorem made_ok {W : World} {s : Sl} {lens : List Int} (hr : RdP cd_int (old W) s lens) (hb : lens.length ≤ 17592186044416) (hS : Sat W w (old W :: M))
    (hQ : ∀ b ps ls w, RowsOk ps ls ∧ ls = madeL lens (max lens.length 1) → 0 < ps.length → ps.length ≤ lens.length + 1 → Sat W w (Hdr b ps :: bagL ps ls :: old W :: M) → Q (.tuple #[.pointer (some ⟨b, 0, none⟩), .bool true]) w) :
    Calls Try.prog 66 #[.slice s.a lens.length s.c] w (retP Q) := by
  refine pithlaw09_made.calls ?_
  unfold pithlaw09_made.F
  repeat' (first | (refine pN_bx hS (by rfl) ?_; clear hS; intro a w hS) | refine pN_via (by (intro K; simp (disch := omega) only [go_sem, pN_min, pN_max, w_u32, w_u64, Option.isNone_some, Option.isNone_none]; (try simp only [wrap_u32, wrap_u64]); rfl)) ?_ | fail)
  have hS : Sat W w (rows cd_p_prob_Set ⟨none, 0⟩ (([] : List (Nat × Nat)).map ptrP) :: cel a ⟨130, [.slice none 0 0, .slice none 0 0]⟩ :: old W :: M) := hS.nil 34 1
  have hS : Sat W w (rows cd_p_pithref06_Set ⟨none, 0⟩ (([] : List (Nat × Nat)).map ptrR) :: rows cd_p_prob_Set ⟨none, 0⟩ (([] : List (Nat × Nat)).map ptrP) :: cel a ⟨130, [.slice none 0 0, .slice none 0 0]⟩ :: old W :: M) := hS.nil 51 1
  have hS : Sat W w (bagL [] [] :: rows cd_p_pithref06_Set ⟨none, 0⟩ (([] : List (Nat × Nat)).map ptrR) :: rows cd_p_prob_Set ⟨none, 0⟩ (([] : List (Nat × Nat)).map ptrP) :: cel a ⟨130, [.slice none 0 0, .slice none 0 0]⟩ :: old W :: M) := Sat.bag_nil hS
  have hS : Sat W w (cel a ⟨130, [.slice none 0 0, .slice none 0 0]⟩ :: rows cd_p_prob_Set ⟨none, 0⟩ (([] : List (Nat × Nat)).map ptrP) :: rows cd_p_pithref06_Set ⟨none, 0⟩ (([] : List (Nat × Nat)).map ptrR) :: bagL [] [] :: old W :: M) := hS.to
  have hS : Sat W w (Hdr a [] :: bagL [] [] :: old W :: M) := Hdr.shut (ps := []) (s := ⟨none, 0⟩) (t := ⟨none, 0⟩) hS
  refine ⟨fun v w => ∃ (i : Nat) (ps : List (Nat × Nat)) (ls : List (List Int)), v = .int .i64 i ∧ ps.length = i ∧ (i ≤ lens.length ∨ i = 1) ∧ ls = madeL lens i ∧ RowsOk ps ls ∧ Sat W w (Hdr a ps :: bagL ps ls :: old W :: M),
    fun v _ => lens.length + 1 - (RowKit.intOf v).toNat, ⟨0, [], [], rfl, rfl, Or.inl (Nat.zero_le _), rfl, ⟨rfl, by simp, by simp⟩, hS⟩, ?_⟩
  clear hS
  rintro _ _ w ⟨i, ps, ls, rfl, hi, hi2, hml, hok, hS⟩
  have key : i < lens.length ∨ i = 0 ∨ ¬ (i < lens.length ∨ i = 0) := by omega
  repeat' (first | (refine pN_lss_s ?_ ?_ <;> intro hc <;> try (exfalso; omega)) | (refine pN_eql_s ?_ ?_ <;> intro hc <;> try (exfalso; first | omega | exact hc rfl | exact hc (by assumption) | exact absurd hc (by assumption))) | refine pIf_t ?_ | refine pIf_f ?_ | refine pGd_go (by rfl) ?_ | refine pGd_no (by rfl) ?_ | refine pN_via (by (intro K; simp (disch := omega) only [go_sem, pN_min, pN_max, w_u32, w_u64, Option.isNone_some, Option.isNone_none]; (try simp only [wrap_u32, wrap_u64]); rfl)) ?_ | fail)
  rotate_left 2
  · exact hQ _ _ _ _ ⟨hok, by rw [hml, show max lens.length 1 = i from by omega]⟩ (by omega) (by omega) hS
  all_goals
    refine ⟨fun w => ∃ (ps' : List (Nat × Nat)) (ls' : List (List Int)), ps'.length = i + 1 ∧ ls' = madeL lens (i + 1) ∧ RowsOk ps' ls' ∧ Sat W w (Hdr a ps' :: bagL ps' ls' :: old W :: M), ?_, ?_⟩
    rotate_left 1
    · clear hS
      rintro _ w ⟨ps', ls', g1, g3, g2, hS⟩
      repeat' (first | refine pN_via (by (intro K; simp (disch := omega) only [go_sem, pN_min, pN_max, w_u32, w_u64, Option.isNone_some, Option.isNone_none]; (try simp only [wrap_u32, wrap_u64]); rfl)) ?_ | fail)
      exact ⟨⟨i + 1, ps', ls', rfl, g1, by omega, g3, g2, hS⟩, by simp [RowKit.intOf] <;> omega⟩
    refine ⟨fun v w => ∃ n : Int, v = .int .i64 n ∧ n = rawLen lens i ∧ Sat W w (Hdr a ps :: bagL ps ls :: old W :: M), ?_, ?_⟩
    · first
        | (obtain ⟨y, hy⟩ : ∃ y, lens[i]? = some y := ⟨lens[i]'(by omega), by simp⟩
           repeat' (first | (refine pN_lss_s ?_ ?_ <;> intro hc <;> try (exfalso; omega)) | refine pIf_t ?_ | refine pIf_f ?_ | refine pN_ld1 ha hS ?_ | refine pN_ixk hS _ (by first | rfl | (exact (Int.toNat_of_nonneg (by omega)).symm)) (by first | rfl | omega | simpa only [go_sem] using True.intro | (simp only [go_sem]; omega)) (by assumption) fun a ha hel => ?_ | refine pN_via (by (intro K; simp (disch := omega) only [go_sem, pN_min, pN_max, w_u32, w_u64, Option.isNone_some, Option.isNone_none]; (try simp only [wrap_u32, wrap_u64]); rfl)) ?_ | fail)
           exact ⟨y, rfl, by rw [rawLen, if_pos (by omega), List.getD_eq_getElem?_getD, hy]; rfl, hS⟩)
        | (repeat' (first | (refine pN_lss_s ?_ ?_ <;> intro hc <;> try (exfalso; omega)) | refine pIf_f ?_ | refine pN_via (by (intro K; simp (disch := omega) only [go_sem, pN_min, pN_max, w_u32, w_u64, Option.isNone_some, Option.isNone_none]; (try simp only [wrap_u32, wrap_u64]); rfl)) ?_ | fail)
           exact ⟨8, rfl, by rw [rawLen, if_neg (by omega)], hS⟩)
    clear hS
    rintro _ _ w ⟨n0, rfl, hn0, hS⟩
    refine ⟨fun v w => ∃ n : Nat, v = .int .i64 n ∧ n = rowLen lens i ∧ n ≤ 4096 ∧ Sat W w (Hdr a ps :: bagL ps ls :: old W :: M), ?_, ?_⟩
    · repeat' (first | ((first | refine pN_lss_s ?_ ?_ | refine pN_gtr_s ?_ ?_) <;> intro hc <;> try (exfalso; omega)) | refine pIf_t ?_ | refine pIf_f ?_ | refine pGd_go (by rfl) ?_ | refine pGd_no (by rfl) ?_ | refine pN_via (by (intro K; simp (disch := omega) only [go_sem, pN_min, pN_max, w_u32, w_u64, Option.isNone_some, Option.isNone_none]; (try simp only [wrap_u32, wrap_u64]); rfl)) ?_ | fail)
      · exact ⟨4096, rfl, by rw [rowLen, if_pos (by omega)], by omega, hS⟩
      · exact ⟨4096, rfl, by rw [rowLen, if_pos (by omega)], by omega, hS⟩
      · exact ⟨n0.toNat, congrArg (Value.int .i64) (by omega), by rw [rowLen, if_neg (by omega), hn0], by omega, hS⟩
    clear hS
    rintro _ _ w ⟨n, rfl, hnr, hn, hS⟩
    refine pc_prob_New (New_ok hS n (by omega) (by omega) fun p w hS => ?_)
    repeat' (first | (refine pc_pithref06_New (RNew_ok hS n (by omega) (by omega) ?_); clear hS; intro r w hS) | (refine pN_neq_s ?_ ?_ <;> intro hc <;> try (exfalso; first | omega | exact hc rfl | exact hc (by assumption) | exact absurd hc (by assumption))) | refine pIf_f ?_ | refine pGd_go (by rfl) ?_ | refine pN_via (by (intro K; simp (disch := omega) only [go_sem, pN_min, pN_max, w_u32, w_u64, Option.isNone_some, Option.isNone_none]; (try simp only [wrap_u32, wrap_u64]); rfl)) ?_ | fail)
    rw [Int.toNat_natCast] at hS
    have hS : Sat W w (Hdr a ps :: PSet p (List.replicate n 1024) :: RSet r (List.replicate n 1024) :: bagL ps ls :: old W :: M) := hS.to
    obtain ⟨⟨s1, s2⟩, hS⟩ := Hdr.opn hS
    repeat' (first | refine pN_l hS (by first | rfl | assumption) ?_ | (refine pN_s hS (by first | exact Nat.le_of_ble_eq_true rfl | assumption) (by rfl) ?_; clear hS; intro w hS; try simp only [List.set_cons_zero, List.set_cons_succ] at hS) | (refine pN_b1 hS (by rfl) (by decide) ?_; clear hS; intro s w hS) | (refine pN_app hS (by first | rfl | omega | simpa only [go_sem] using True.intro | (simp only [go_sem]; omega)) (by first | rfl | omega | simpa only [go_sem] using True.intro | (simp only [go_sem]; omega)) (by first | omega | (simp only [go_sem]; omega)) ?_; clear hS; intro s w hS) | refine pN_via (by (intro K; simp (disch := omega) only [go_sem, pN_min, pN_max, w_u32, w_u64, Option.isNone_some, Option.isNone_none]; (try simp only [wrap_u32, wrap_u64]); rfl)) ?_ | fail)
    rename_i _ _ t1 _ _ _ _ _
    have hS : Sat W w (cel a ⟨130, [.slice t1.a (ps.map ptrP ++ [(some ⟨p, 0, none⟩ : Option Addr)]).length t1.c, .slice s.a (ps.map ptrR ++ [(some ⟨r, 0, none⟩ : Option Addr)]).length s.c]⟩ ::
        rows cd_p_prob_Set t1 (ps.map ptrP ++ [(some ⟨p, 0, none⟩ : Option Addr)]) :: rows cd_p_pithref06_Set s (ps.map ptrR ++ [(some ⟨r, 0, none⟩ : Option Addr)]) :: PSet p (List.replicate n 1024) :: RSet r (List.replicate n 1024) :: bagL ps ls :: old W :: M) := hS.to
    have hS := Hdr.grow hS
    have hS : Sat W w (PSet (p, r).1 (List.replicate n 1024) :: RSet (p, r).2 (List.replicate n 1024) :: bagL ps ls :: Hdr a (ps ++ [(p, r)]) :: old W :: M) := hS.to
    have hS := bagL.snoc hS hok.len
    exact ⟨_, _, by rw [List.length_append, hi]; rfl, by rw [madeL, ← hml, hnr], hok.snoc (p, r) hn, hS.to⟩
end

end Go.Proofs.Ytoejaggkedlfmaa

namespace Go.Proofs.Ytoejaggkedlfmaa
open Go
set_option linter.unusedSimpArgs false
set_option linter.unnecessarySimpa false
set_option linter.unusedSectionVars false
set_option linter.unusedVariables false
attribute [local irreducible] oMv oV oU oCall oCallV oBi oBin oUn oLoad oStore oNil oFld oField oIdx oIndex oPick oAlloc oBox oBuild oBs oConv oMk oSl oExt oFn oIface oMap oLook oMapUp oRange oNext oAssert oPanic oRes pN pA pL pDr pIf gA pGd

theorem fixed_there : R.There (List.replicate 8 (1024 : Int)).length 0 3 := by decide
theorem fixed_holds : R.Holds 5 3 := by decide
theorem fixed_cost : R.costs (List.replicate 8 1024) 0 (R.bitAt false (3 : Int).toNat 5) (3 : Int).toNat = 50 := by decide +kernel
theorem fixed_put : (R.TS.put ⟨R.S.new, List.replicate 8 1024⟩ 0 (R.bitAt false (3 : Int).toNat 5) (3 : Int).toNat).l[(6 : Int).toNat]? = some 992 := by decide +kernel
theorem fixed_k : R.S.new.k + 100 ≤ 140737488355328 := by decide
theorem fixed_len : (List.replicate 8 (1024 : Int)).length ≤ 1048576 := by decide

section
variable {E w : World} {M : List HA} {Q : Value → World → Prop} {b p : Nat} {s : R.S} {l : List Int}

theorem fixed_ok (hS : Sat E w M) (hQ : ∀ w, Sat E w M → Q (.bool true) w) : Calls Try.prog 57 #[] w (retP Q) := by
  refine pithlaw09_fixed.calls ?_
  unfold pithlaw09_fixed.F
  refine pc_prob_New (New_ok hS 8 (by decide) (by decide) fun p w hS => ?_)
  have el : List.replicate (8 : Int).toNat (1024 : Int) = List.replicate 8 1024 := rfl
  rw [el] at hS
  repeat' (first | refine pN_via (by (intro K; simp (disch := omega) only [go_sem, pN_min, pN_max, w_u32, w_u64, Option.isNone_some, Option.isNone_none]; (try simp only [wrap_u32, wrap_u64]); rfl)) ?_ | fail)
  refine pc_rcenc_New (NewE_ok hS fun b w hS => ?_)
  repeat' (first | (refine pN_neq_s ?_ ?_ <;> intro hc <;> try (exfalso; first | omega | exact hc rfl | exact hc (by assumption) | exact absurd hc (by assumption))) | refine pIf_f ?_ | refine pGd_go (by rfl) ?_ | refine pN_via (by (intro K; simp (disch := omega) only [go_sem, pN_min, pN_max, w_u32, w_u64, Option.isNone_some, Option.isNone_none]; (try simp only [wrap_u32, wrap_u64]); rfl)) ?_ | fail)
  refine pc_tree_Cost (TCost_in (hS.fd (PSet p)) 0 3 5 fixed_len fixed_there fixed_holds fun w hS => ?_)
  rw [fixed_cost]
  repeat' (first | refine pN_via (by (intro K; simp (disch := omega) only [go_sem, pN_min, pN_max, w_u32, w_u64, Option.isNone_some, Option.isNone_none]; (try simp only [wrap_u32, wrap_u64]); rfl)) ?_ | fail)
  refine pc_tree_Put (Put_in (hS.fd2 (Enc b) (PSet p)) R.Ok.new (B.Fine.new _) fixed_k 0 3 5 fixed_len fixed_there fixed_holds fun w hS => ?_)
  have hx := fixed_put
  generalize R.TS.put ⟨R.S.new, List.replicate 8 1024⟩ 0 (R.bitAt false (3 : Int).toNat 5) (3 : Int).toNat = q at hS hx
  refine pc_prob_Set_At (At_in (hS.fd (PSet p)) 6 (by decide) hx fun w hS => ?_)
  clear hx
  repeat' (first | (refine pN_eql_s ?_ ?_ <;> intro hc <;> try (exfalso; first | omega | exact hc rfl | exact hc (by assumption) | exact absurd hc (by assumption))) | refine pGd_go (by rfl) ?_ | refine pN_via (by (intro K; simp (disch := omega) only [go_sem, pN_min, pN_max, w_u32, w_u64, Option.isNone_some, Option.isNone_none]; (try simp only [wrap_u32, wrap_u64]); rfl)) ?_ | fail)
  exact hQ _ hS.to
end

end Go.Proofs.Ytoejaggkedlfmaa

namespace Go.Proofs.Ytoejaggkedlfmaa
open Go
set_option linter.unusedSimpArgs false
set_option linter.unnecessarySimpa false
set_option linter.unusedSectionVars false
set_option linter.unusedVariables false
attribute [local irreducible] oMv oV oU oCall oCallV oBi oBin oUn oLoad oStore oNil oFld oField oIdx oIndex oPick oAlloc oBox oBuild oBs oConv oMk oSl oExt oFn oIface oMap oLook oMapUp oRange oNext oAssert oPanic oRes pN pA pL pDr pIf gA pGd

namespace R
theorem widen_k1 (s : S) (h : 65536 ≤ s.R) : s.widen.k ≤ s.k + 1 := (widen_k _ s rfl (by omega)).2 h
theorem cut_k1 {s : S} (c bit : Int) (h0 : 65536 ≤ c) (h1 : 65536 ≤ s.R - c) : (s.cut c bit).k ≤ s.k + 1 := by
  unfold S.cut
  split
  · exact widen_k1 _ h0
  · exact widen_k1 _ h1
theorem bound_mid {r p : Int} (hr : 16777216 ≤ r) (h0 : 31 ≤ p) (h1 : p ≤ 2017) : 65536 ≤ B.bound r p ∧ 65536 ≤ r - B.bound r p := by
  unfold B.bound
  rw [B.taken_self (by omega) (by omega)]
  have a1 : r / 2048 * 31 ≤ r / 2048 * p := Int.mul_le_mul_of_nonneg_left h0 (by omega)
  have a2 : r / 2048 * p ≤ r / 2048 * 2017 := Int.mul_le_mul_of_nonneg_left h1 (by omega)
  omega
theorem TS.Ok.bit_k1 {a : TS} (h : a.Ok) {i : Int} (h0 : 0 ≤ i) (h1 : i < a.l.length) (bit : Int) : (a.bit i bit).s.k ≤ a.s.k + 1 := by
  have hx : a.l[i.toNat]? = some (a.l.getD i.toNat 0) := by
    rw [List.getD_eq_getElem?_getD, List.getElem?_eq_getElem (show i.toNat < a.l.length by omega)]; rfl
  have hp := h.f.get hx
  have := bound_mid h.s.r0 hp.1 hp.2
  exact cut_k1 _ _ this.1 this.2
theorem TS.Ok.put_k1 {a : TS} (h : a.Ok) {at_ n : Int} (ht : There a.l.length at_ n) {bs : Nat → Int} (hb : ∀ k, 0 ≤ bs k ∧ bs k ≤ 1) : ∀ k : Nat, k ≤ n.toNat → (a.put at_ bs k).s.k ≤ a.s.k + k
  | 0, _ => Nat.le_refl _
  | k + 1, hk => by
    have i1 := TS.Ok.put_k1 h ht hb k (by omega)
    have ⟨o1, _⟩ := h.put ht hb k (by omega)
    have hp := ht.place hb (k := k) (by omega)
    have hl := a.put_len at_ bs k
    have := o1.bit_k1 (i := at_ + node bs k) hp.1 (by omega) (bs k)
    simp only [TS.put]
    omega
theorem direct_k1 (v : Int) : ∀ (n : Nat) {s : S}, Ok s → (s.direct v n).k ≤ s.k + n
  | 0, _, _ => Nat.le_refl _
  | n + 1, s, h => by
    have i1 := direct_k1 v n (h.one (v / 2 ^ n % 2))
    have := one_k h (v / 2 ^ n % 2)
    rw [S.direct]
    omega
end R

section
variable {E w : World} {M : List HA} {Q : Value → World → Prop} {b : Nat} {ps : List (Nat × Nat)} {ls : List (List Int)} {l : List Int}

def rowOf (r : Int) (n : Nat) : Nat := if 0 ≤ r ∧ r < n then r.toNat else 0
theorem rowOf_lt (r : Int) {n : Nat} (h : 0 < n) : rowOf r n < n := by unfold rowOf; split <;> omega

theorem of_ok {s : Sl} {n : Nat} {v2 : Value} (hS : Sat E w (cel b ⟨130, [.slice s.a n s.c, v2]⟩ :: M)) (kind row at_ m v : Int) (hQ : ∀ w, Sat E w (cel b ⟨130, [.slice s.a n s.c, v2]⟩ :: M) → Q (.int .i64 (rowOf row n)) w) :
    Calls Try.prog 98 #[.pointer (some ⟨b, 0, none⟩), .agg #[.int .i64 kind, .int .i64 row, .int .i64 at_, .int .i64 m, .int .i64 v]] w (retP Q) := by
  refine pithlaw09_rows_of.calls ?_
  unfold pithlaw09_rows_of.F
  unfold rowOf at hQ
  repeat' (first | ((first | refine pA_lss_s ?_ ?_ | refine pA_geq_s ?_ ?_) <;> intro hc <;> try (exfalso; omega)) | refine pIf_t ?_ | refine pIf_f ?_ | refine gA_go (by rfl) ?_ | refine gA_no (by rfl) ?_ | refine pN_l hS (by first | rfl | assumption) ?_ | refine pL_l hS (by first | rfl | assumption) ?_ | (refine pDr_go hS ?_; clear hS; intro w hS) | (refine pN_bx hS (by rfl) ?_; clear hS; intro a w hS) | refine pN_via (by (intro K; simp (disch := omega) only [go_sem, pN_min, pN_max, w_u32, w_u64, Option.isNone_some, Option.isNone_none]; (try simp only [wrap_u32, wrap_u64]); rfl)) ?_ | refine pA_via (by (intro K; simp (disch := omega) only [go_sem, pN_min, pN_max, w_u32, w_u64, Option.isNone_some, Option.isNone_none]; (try simp only [wrap_u32, wrap_u64]); rfl)) ?_ | fail)
  · rw [if_neg (by omega)] at hQ
    exact hQ _ hS.to
  · rw [if_neg (by omega)] at hQ
    exact hQ _ hS.to
  · rw [if_pos (by omega), Int.toNat_of_nonneg (by omega)] at hQ
    exact hQ _ hS.to

theorem put_keep {st : R.S} (ho : R.Ok st) (hf : B.Fine l) (at_ n v : Int) (back : Bool) :
    (if R.There l.length at_ n ∧ R.Holds v n then R.TS.put ⟨st, l⟩ at_ (R.bitAt back n.toNat v) n.toNat else ⟨st, l⟩).Ok ∧ (if R.There l.length at_ n ∧ R.Holds v n then R.TS.put ⟨st, l⟩ at_ (R.bitAt back n.toNat v) n.toNat else ⟨st, l⟩).s.k ≤ st.k + 32 ∧ (if R.There l.length at_ n ∧ R.Holds v n then R.TS.put ⟨st, l⟩ at_ (R.bitAt back n.toNat v) n.toNat else ⟨st, l⟩).l.length = l.length := by
  have oa : R.TS.Ok ⟨st, l⟩ := ⟨ho, hf⟩
  split
  · rename_i hc
    have h16 := hc.1.2.1
    have := oa.put_k1 hc.1 (R.bitAt_01 back n.toNat v) n.toNat (Nat.le_refl _)
    exact ⟨(oa.put hc.1 (R.bitAt_01 back n.toNat v) n.toNat (Nat.le_refl _)).1, (by simp only at this; omega), R.TS.put_len _ _ _ _⟩
  · exact ⟨oa, Nat.le_add_right _ _, rfl⟩

theorem codes_end {e x i : Nat} {st : R.S} {s t : Sl} {p r : Nat} {m : List Int} (hS : Sat E w (cel b ⟨130, [.slice s.a ps.length s.c, .slice t.a ps.length t.c]⟩ :: rows cd_p_prob_Set s (ps.map ptrP) :: rows cd_p_pithref06_Set t (ps.map ptrR) ::
    PSet p m :: RSet r m :: bag (((ps.zip ls).map pairH).eraseIdx i) :: Enc e st :: REnc x st :: M)) (hp : ps[i]? = some (p, r)) (hl : ls[i]? = some l) : Sat E w (Hdr b ps :: bagL ps (ls.set i m) :: Enc e st :: REnc x st :: M) := by
  have h1 := Hdr.shut hS
  have h2 : Sat E w (PSet (p, r).1 m :: RSet (p, r).2 m :: bag (((ps.zip ls).map pairH).eraseIdx i) :: Hdr b ps :: Enc e st :: REnc x st :: M) := h1.to
  have h3 := bagL.into h2 hp hl
  exact h3.to

set_option maxHeartbeats 4000000 in
theorem codes_ok {e x : Nat} {st : R.S} (hS : Sat E w (Hdr b ps :: bagL ps ls :: Enc e st :: REnc x st :: M)) (hp : 0 < ps.length) (hr : RowsOk ps ls) (ho : R.Ok st) (hk : st.k + 200 ≤ 140737488355328) (kind row at_ n v : Int) (v1 : v < 9223372036854775808)
    (hQ : ∀ st' ls' w, RowsOk ps ls' → R.Ok st' → st'.k ≤ st.k + 32 → Sat E w (Hdr b ps :: bagL ps ls' :: Enc e st' :: REnc x st' :: M) → Q (.bool true) w) :
    Calls Try.prog 67 #[.pointer (some ⟨b, 0, none⟩), .pointer (some ⟨e, 0, none⟩), .pointer (some ⟨x, 0, none⟩), .agg #[.int .i64 kind, .int .i64 row, .int .i64 at_, .int .i64 n, .int .i64 v]] w (retP Q) := by
  refine pithlaw09_rows_codes.calls ?_
  unfold pithlaw09_rows_codes.F
  obtain ⟨⟨s, t⟩, hS⟩ := Hdr.opn hS
  have hi := rowOf_lt row hp
  have hls := hr.len
  obtain ⟨⟨p, r⟩, hpr⟩ : ∃ y, ps[rowOf row ps.length]? = some y := ⟨ps[rowOf row ps.length]'hi, by simp⟩
  obtain ⟨l, hl⟩ : ∃ y, ls[rowOf row ps.length]? = some y := ⟨ls[rowOf row ps.length]'(by omega), by simp [hls, hi]⟩
  have hx1 : (ps.map ptrP)[rowOf row ps.length]? = some (some ⟨p, 0, none⟩) := by rw [List.getElem?_map, hpr]; rfl
  have hx2 : (ps.map ptrR)[rowOf row ps.length]? = some (some ⟨r, 0, none⟩) := by rw [List.getElem?_map, hpr]; rfl
  have hlen1 : (ps.map ptrP).length = ps.length := List.length_map _
  have hlen2 : (ps.map ptrR).length = ps.length := List.length_map _
  have hS := bagL.out (hS.fd (bagL ps)) hpr hl
  dsimp only at hS
  have hf := hr.fine l (List.mem_of_getElem? hl)
  have hsm := hr.small l (List.mem_of_getElem? hl)
  have hcv : ∀ w, Sem.run Try.prog (oConv 3 26 (.int .i64 v)) w = .ok (.value (.int .u32 (v % 4294967296))) w := fun w => by
    rw [← wrap_u32]; exact run_conv_int .i64 Try.underlying3 Try.underlying26 v
  repeat' (first | (refine pc_pithlaw09_rows_of (of_ok (hS.fd (cel b)) _ _ _ _ _ ?_); clear hS; intro w hS) | (refine pN_eql_s ?_ ?_ <;> intro hc <;> try (exfalso; first | omega | exact hc rfl | exact hc (by assumption) | exact absurd hc (by assumption))) | refine pIf_t ?_ | refine pIf_f ?_ | refine pN_l hS (by first | rfl | assumption) ?_ | refine pL_l hS (by first | rfl | assumption) ?_ | refine pL_ld1 ha hS ?_ | refine pL_la hS (by rfl) ?_ | (refine pDr_go hS ?_; clear hS; intro w hS) | (refine pN_bx hS (by rfl) ?_; clear hS; intro a w hS) | refine ⟨⟨(by first | exact run_l hS (by first | rfl | assumption) | exact run_st hS (by first | rfl | omega) | exact run_ld1 ha hS | exact fun _ => run_l hS (by rfl) | exact fun _ => run_st hS (by first | rfl | omega) | exact fun _ => run_ld1 ha hS | exact fun h => Bool.noConfusion h), trivial⟩, ?_⟩ | refine pA_ixk hS _ (by first | rfl | (exact (Int.toNat_of_nonneg (by omega)).symm)) (by first | rfl | omega | simpa only [go_sem] using True.intro | (simp only [go_sem]; omega)) (by assumption) fun a ha hel => ?_ | refine pN_via (by (intro K; simp (disch := omega) only [go_sem, pN_min, pN_max, w_u32, w_u64, Option.isNone_some, Option.isNone_none]; (try simp only [wrap_u32, wrap_u64]); rfl)) ?_ | refine pA_via (by (intro K; simp (disch := omega) only [go_sem, pN_min, pN_max, w_u32, w_u64, Option.isNone_some, Option.isNone_none]; (try simp only [wrap_u32, wrap_u64]); rfl)) ?_ | refine pL_via (by (intro K; simp (disch := omega) only [go_sem, pN_min, pN_max, w_u32, w_u64, Option.isNone_some, Option.isNone_none]; (try simp only [wrap_u32, wrap_u64]); rfl)) ?_ | fail)
  · refine pc_tree_Put (Put_ok (hS.fd2 (Enc e) (PSet p)) ho hf (by omega) at_ n v (by omega) ?_)
    clear hS
    intro w hS
    have hu := put_keep ho hf at_ n v false
    repeat' (first | (refine pc_pithref09_Put (RPut_ok (hS.fd2 (REnc x) (RSet r)) ho hf (by omega) at_ n v v1 false (by omega) ?_); clear hS; intro w hS) | (refine pA_eql_s ?_ ?_ <;> intro hc <;> try (exfalso; first | omega | exact hc rfl | exact hc (by assumption) | exact absurd hc (by assumption))) | refine ⟨trivial, ?_⟩ | refine ⟨⟨(by first | exact run_l hS (by first | rfl | assumption) | exact run_st hS (by first | rfl | omega) | exact run_ld1 ha hS | exact fun _ => run_l hS (by rfl) | exact fun _ => run_st hS (by first | rfl | omega) | exact fun _ => run_ld1 ha hS | exact fun h => Bool.noConfusion h), (by first | exact run_l hS (by first | rfl | assumption) | exact run_st hS (by first | rfl | omega) | exact run_ld1 ha hS | exact fun _ => run_l hS (by rfl) | exact fun _ => run_st hS (by first | rfl | omega) | exact fun _ => run_ld1 ha hS | exact fun h => Bool.noConfusion h), (by first | exact run_l hS (by first | rfl | assumption) | exact run_st hS (by first | rfl | omega) | exact run_ld1 ha hS | exact fun _ => run_l hS (by rfl) | exact fun _ => run_st hS (by first | rfl | omega) | exact fun _ => run_ld1 ha hS | exact fun h => Bool.noConfusion h), trivial⟩, ?_⟩ | fail)
    generalize (if R.There l.length at_ n ∧ R.Holds v n then R.TS.put ⟨st, l⟩ at_ (R.bitAt false n.toNat v) n.toNat else ⟨st, l⟩) = u at hS hu
    exact hQ u.s (ls.set _ u.l) _ (hr.set _ hu.1.f (by omega)) hu.1.s hu.2.1 (codes_end (s := s) (t := t) (m := u.l) (st := u.s) hS.to hpr hl)
  · refine pc_tree_PutBack (PutBack_ok (hS.fd2 (Enc e) (PSet p)) ho hf (by omega) at_ n v (by omega) ?_)
    clear hS
    intro w hS
    have hu := put_keep ho hf at_ n v true
    repeat' (first | (refine pc_pithref09_Put (RPut_ok (hS.fd2 (REnc x) (RSet r)) ho hf (by omega) at_ n v v1 true (by omega) ?_); clear hS; intro w hS) | (refine pA_eql_s ?_ ?_ <;> intro hc <;> try (exfalso; first | omega | exact hc rfl | exact hc (by assumption) | exact absurd hc (by assumption))) | refine ⟨trivial, ?_⟩ | refine ⟨⟨(by first | exact run_l hS (by first | rfl | assumption) | exact run_st hS (by first | rfl | omega) | exact run_ld1 ha hS | exact fun _ => run_l hS (by rfl) | exact fun _ => run_st hS (by first | rfl | omega) | exact fun _ => run_ld1 ha hS | exact fun h => Bool.noConfusion h), (by first | exact run_l hS (by first | rfl | assumption) | exact run_st hS (by first | rfl | omega) | exact run_ld1 ha hS | exact fun _ => run_l hS (by rfl) | exact fun _ => run_st hS (by first | rfl | omega) | exact fun _ => run_ld1 ha hS | exact fun h => Bool.noConfusion h), (by first | exact run_l hS (by first | rfl | assumption) | exact run_st hS (by first | rfl | omega) | exact run_ld1 ha hS | exact fun _ => run_l hS (by rfl) | exact fun _ => run_st hS (by first | rfl | omega) | exact fun _ => run_ld1 ha hS | exact fun h => Bool.noConfusion h), trivial⟩, ?_⟩ | fail)
    generalize (if R.There l.length at_ n ∧ R.Holds v n then R.TS.put ⟨st, l⟩ at_ (R.bitAt true n.toNat v) n.toNat else ⟨st, l⟩) = u at hS hu
    exact hQ u.s (ls.set _ u.l) _ (hr.set _ hu.1.f (by omega)) hu.1.s hu.2.1 (codes_end (s := s) (t := t) (m := u.l) (st := u.s) hS.to hpr hl)
  · refine pc_rcenc_Encoder_Bit (Bit_ok (hS.fd2 (Enc e) (PSet p)) hf (by omega) at_ v ?_)
    clear hS
    intro w hS
    repeat' (first | (refine pc_pithref07_Encoder_Bit (RBit_ok (hS.fd2 (REnc x) (RSet r)) ho hf (by omega) at_ v ?_); clear hS; intro w hS) | (refine pA_eql_s ?_ ?_ <;> intro hc <;> try (exfalso; first | omega | exact hc rfl | exact hc (by assumption) | exact absurd hc (by assumption))) | refine ⟨trivial, ?_⟩ | refine ⟨⟨(by first | exact run_l hS (by first | rfl | assumption) | exact run_st hS (by first | rfl | omega) | exact run_ld1 ha hS | exact fun _ => run_l hS (by rfl) | exact fun _ => run_st hS (by first | rfl | omega) | exact fun _ => run_ld1 ha hS | exact fun h => Bool.noConfusion h), (by first | exact run_l hS (by first | rfl | assumption) | exact run_st hS (by first | rfl | omega) | exact run_ld1 ha hS | exact fun _ => run_l hS (by rfl) | exact fun _ => run_st hS (by first | rfl | omega) | exact fun _ => run_ld1 ha hS | exact fun h => Bool.noConfusion h), trivial⟩, ?_⟩ | fail)
    by_cases hc : 0 ≤ at_ ∧ at_ < l.length
    · simp only [if_pos hc] at hS
      have oa : R.TS.Ok ⟨st, l⟩ := ⟨ho, hf⟩
      have h1 := (oa.bit hc.1 hc.2 v).1
      have h2 := oa.bit_k1 hc.1 hc.2 v
      have h3 := R.TS.bit_len ⟨st, l⟩ at_ v
      dsimp only [R.TS.bit] at h1 h2 h3
      have h1f : B.Fine (l.set at_.toNat (B.next (l.getD at_.toNat 0) v)) := h1.f
      have h1s : R.Ok (st.cut (B.bound st.R (l.getD at_.toNat 0)) v) := h1.s
      exact hQ (st.cut (B.bound st.R (l.getD at_.toNat 0)) v) (ls.set _ (l.set at_.toNat (B.next (l.getD at_.toNat 0) v))) _ (hr.set _ h1f (by omega)) h1s (by omega) (codes_end (s := s) (t := t) (m := l.set at_.toNat (B.next (l.getD at_.toNat 0) v)) (st := st.cut (B.bound st.R (l.getD at_.toNat 0)) v) hS.to hpr hl)
    · simp only [if_neg hc] at hS
      exact hQ st (ls.set _ l) _ (hr.set _ hf hsm) ho (by omega) (codes_end (s := s) (t := t) (m := l) (st := st) hS.to hpr hl)
  · refine pc_rcenc_Encoder_Direct (Direct_ok (hS.fd (Enc e)) (by omega) _ n (by omega) (by omega) ?_)
    clear hS
    intro w hS
    refine ⟨⟨run_l hS rfl, hcv _, run_l hS rfl, trivial⟩, ?_⟩
    repeat' (first | (refine pc_pithref07_Encoder_Direct (RDirect_ok (hS.fd (REnc x)) ho (by omega) _ n (by omega) (by omega) ?_); clear hS; intro w hS) | (refine pA_eql_s ?_ ?_ <;> intro hc <;> try (exfalso; first | omega | exact hc rfl | exact hc (by assumption) | exact absurd hc (by assumption))) | refine ⟨trivial, ?_⟩ | fail)
    by_cases hc : 0 ≤ n ∧ n ≤ 32
    · simp only [if_pos hc] at hS
      have h1 := R.direct_k1 (v % 4294967296) n.toNat ho
      exact hQ _ (ls.set _ l) _ (hr.set _ hf hsm) (R.Ok.direct (v % 4294967296) n.toNat ho) (by omega) (codes_end (s := s) (t := t) (m := l) (st := st.direct (v % 4294967296) n.toNat) hS.to hpr hl)
    · simp only [if_neg hc] at hS
      exact hQ st (ls.set _ l) _ (hr.set _ hf hsm) ho (by omega) (codes_end (s := s) (t := t) (m := l) (st := st) hS.to hpr hl)
  · repeat' (first | (refine pc_tree_Cost (TCost_ok (hS.fd (PSet p)) at_ n v (by omega) ?_); clear hS; intro w hS) | (refine pc_pithref09_Cost (RCostW_ok (hS.fd (RSet r)) at_ n v v1 _ (by omega) ?_); clear hS; intro w hS) | (refine pc_tree_CostBack (TCostBack_ok (hS.fd (PSet p)) at_ n v (by omega) ?_); clear hS; intro w hS) | (refine pN_eql_s ?_ ?_ <;> intro hc <;> try (exfalso; first | omega | exact hc rfl | exact hc (by assumption) | exact absurd hc (by assumption))) | refine pGd_go (by rfl) ?_ | refine pN_l hS (by first | rfl | assumption) ?_ | refine pN_via (by (intro K; simp (disch := omega) only [go_sem, pN_min, pN_max, w_u32, w_u64, Option.isNone_some, Option.isNone_none]; (try simp only [wrap_u32, wrap_u64]); rfl)) ?_ | fail)
    exact hQ st (ls.set _ l) _ (hr.set _ hf hsm) ho (by omega) (codes_end (s := s) (t := t) (m := l) (st := st) hS.to hpr hl)

theorem same_ok (hS : Sat E w (Hdr b ps :: bagL ps ls :: M)) (hr : RowsOk ps ls) (hn : ps.length ≤ 140737488355328) (hQ : ∀ w, Sat E w (Hdr b ps :: bagL ps ls :: M) → Q (.bool true) w) :
    Calls Try.prog 68 #[.pointer (some ⟨b, 0, none⟩)] w (retP Q) := by
  refine pithlaw09_rows_same.calls ?_
  unfold pithlaw09_rows_same.F
  have hls := hr.len
  refine ⟨fun v w => ∃ k : Nat, v = .int .i64 k ∧ k ≤ ps.length ∧ Sat E w (Hdr b ps :: bagL ps ls :: M), fun v _ => ps.length - (RowKit.intOf v).toNat, ⟨0, rfl, Nat.zero_le _, hS⟩, ?_⟩
  clear hS
  rintro _ _ w ⟨k, rfl, hk, hS⟩
  obtain ⟨⟨s, t⟩, hS⟩ := Hdr.opn hS
  have hlen1 : (ps.map ptrP).length = ps.length := List.length_map _
  have hlen2 : (ps.map ptrR).length = ps.length := List.length_map _
  by_cases hlt : k < ps.length
  · obtain ⟨⟨p, r⟩, hpr⟩ : ∃ y, ps[k]? = some y := ⟨ps[k]'hlt, by simp⟩
    obtain ⟨l, hl⟩ : ∃ y, ls[k]? = some y := ⟨ls[k]'(by omega), by simp [hls, hlt]⟩
    have hx1 : (ps.map ptrP)[k]? = some (some ⟨p, 0, none⟩) := by rw [List.getElem?_map, hpr]; rfl
    have hx2 : (ps.map ptrR)[k]? = some (some ⟨r, 0, none⟩) := by rw [List.getElem?_map, hpr]; rfl
    have hsm := hr.small l (List.mem_of_getElem? hl)
    repeat' (first | (refine pN_lss_s ?_ ?_ <;> intro hc <;> try (exfalso; omega)) | refine pIf_t ?_ | refine pN_l hS (by first | rfl | assumption) ?_ | refine pN_via (by (intro K; simp (disch := omega) only [go_sem, pN_min, pN_max, w_u32, w_u64, Option.isNone_some, Option.isNone_none]; (try simp only [wrap_u32, wrap_u64]); rfl)) ?_ | fail)
    have hS := bagL.out (hS.fd (bagL ps)) hpr hl
    dsimp only at hS
    have hS : Sat E w (PSet p l :: RSet r l :: cel b ⟨130, [.slice s.a ps.length s.c, .slice t.a ps.length t.c]⟩ :: rows cd_p_prob_Set s (ps.map ptrP) :: rows cd_p_pithref06_Set t (ps.map ptrR) :: bag (((ps.zip ls).map pairH).eraseIdx k) :: M) := hS.to
    refine ⟨fun v w => ∃ i : Nat, v = .int .i64 i ∧ i ≤ l.length ∧ Sat E w (PSet p l :: RSet r l :: cel b ⟨130, [.slice s.a ps.length s.c, .slice t.a ps.length t.c]⟩ :: rows cd_p_prob_Set s (ps.map ptrP) :: rows cd_p_pithref06_Set t (ps.map ptrR) :: bag (((ps.zip ls).map pairH).eraseIdx k) :: M), fun v _ => l.length - (RowKit.intOf v).toNat, ⟨0, rfl, Nat.zero_le _, hS⟩, ?_⟩
    clear hS
    rintro _ _ w ⟨i, rfl, hi, hS⟩
    obtain ⟨s2, hS⟩ := RSet.opn (hS.fd (RSet r))
    by_cases hli : i < l.length
    · obtain ⟨y, hy⟩ : ∃ y, l[i]? = some y := ⟨l[i]'hli, by simp⟩
      repeat' (first | (refine pc_prob_Set_At (At_in (hS.fd (PSet p)) (i : Int) (by omega) (by rw [Int.toNat_natCast]; exact hy) ?_); clear hS; intro w hS) | (refine pN_lss_s ?_ ?_ <;> intro hc <;> try (exfalso; omega)) | (refine pN_neq_s ?_ ?_ <;> intro hc <;> try (exfalso; first | omega | exact hc rfl | exact hc (by assumption) | exact absurd hc (by assumption))) | refine pIf_t ?_ | refine pIf_f ?_ | refine pGd_go (by rfl) ?_ | refine pN_l hS (by first | rfl | assumption) ?_ | refine pN_ld1 ha hS ?_ | refine pN_ixk hS _ (by first | rfl | (exact (Int.toNat_of_nonneg (by omega)).symm)) (by first | rfl | omega | simpa only [go_sem] using True.intro | (simp only [go_sem]; omega)) (by assumption) fun a ha hel => ?_ | refine pN_via (by (intro K; simp (disch := omega) only [go_sem, pN_min, pN_max, w_u32, w_u64, Option.isNone_some, Option.isNone_none]; (try simp only [wrap_u32, wrap_u64]); rfl)) ?_ | fail)
      have hS := RSet.shut (b := r) (s := s2) hS rfl
      exact ⟨⟨i + 1, rfl, by omega, hS.to⟩, by simp [RowKit.intOf] <;> omega⟩
    · repeat' (first | (refine pN_lss_s ?_ ?_ <;> intro hc <;> try (exfalso; omega)) | refine pIf_f ?_ | refine pN_l hS (by first | rfl | assumption) ?_ | refine pN_ld1 ha hS ?_ | refine pN_ixk hS _ (by first | rfl | (exact (Int.toNat_of_nonneg (by omega)).symm)) (by first | rfl | omega | simpa only [go_sem] using True.intro | (simp only [go_sem]; omega)) (by assumption) fun a ha hel => ?_ | refine pN_via (by (intro K; simp (disch := omega) only [go_sem, pN_min, pN_max, w_u32, w_u64, Option.isNone_some, Option.isNone_none]; (try simp only [wrap_u32, wrap_u64]); rfl)) ?_ | fail)
      have hS := RSet.shut (b := r) (s := s2) hS rfl
      have hS : Sat E w (cel b ⟨130, [.slice s.a ps.length s.c, .slice t.a ps.length t.c]⟩ :: rows cd_p_prob_Set s (ps.map ptrP) :: rows cd_p_pithref06_Set t (ps.map ptrR) :: PSet (p, r).1 l :: RSet (p, r).2 l :: bag (((ps.zip ls).map pairH).eraseIdx k) :: M) := hS.to
      have hS := Hdr.shut hS
      have hS : Sat E w (PSet (p, r).1 l :: RSet (p, r).2 l :: bag (((ps.zip ls).map pairH).eraseIdx k) :: Hdr b ps :: M) := hS.to
      have hS := bagL.into hS hpr hl
      have e : ls.set k l = ls := by
        apply List.ext_getElem?
        intro j
        rw [List.getElem?_set]
        split
        · rename_i h; subst h; rw [if_pos (by omega), hl]
        · rfl
      rw [e] at hS
      exact ⟨⟨k + 1, rfl, by omega, hS.to⟩, by simp [RowKit.intOf] <;> omega⟩
  · repeat' (first | (refine pN_lss_s ?_ ?_ <;> intro hc <;> try (exfalso; omega)) | refine pIf_f ?_ | refine pN_l hS (by first | rfl | assumption) ?_ | refine pN_via (by (intro K; simp (disch := omega) only [go_sem, pN_min, pN_max, w_u32, w_u64, Option.isNone_some, Option.isNone_none]; (try simp only [wrap_u32, wrap_u64]); rfl)) ?_ | fail)
    exact hQ _ (Hdr.shut (s := s) (t := t) hS)
end

end Go.Proofs.Ytoejaggkedlfmaa
