/-
  The statement TreeCodes, walked.
-/
import Derived.Test.YtoejaggkedlfmaaTreeRows
import Derived.Test.YtoejaggkedlfmaaTreeLaw
namespace Go.Proofs.Ytoejaggkedlfmaa
open Go
set_option linter.unusedSimpArgs false
set_option linter.unnecessarySimpa false
set_option linter.unusedSectionVars false
set_option linter.unusedVariables false
attribute [local irreducible] oMv oV oU oCall oCallV oBi oBin oUn oLoad oStore oNil oFld oField oIdx oIndex oPick oAlloc oBox oBuild oBs oConv oMk oSl oExt oFn oIface oMap oLook oMapUp oRange oNext oAssert oPanic oRes pN pA pL pDr pIf gA pGd

namespace R
theorem widen_k1 (s : S) (h : 65536 ≤ s.R) : s.widen.k ≤ s.k + 1 := (widen_k _ s rfl (by omega)).2 h
theorem cut_k1 {s : S} (c bit : Int) (h0 : 65536 ≤ c) (h1 : 65536 ≤ s.R - c) : (s.cut c bit).k ≤ s.k + 1 := by
  unfold S.cut
  split
  · exact widen_k1 _ h0
  · exact widen_k1 _ h1
theorem bound_mid {r p : Int} (hr : 16777216 ≤ r) (h0 : 31 ≤ p) (h1 : p ≤ 2017) : 65536 ≤ B.bound r p ∧ 65536 ≤ r - B.bound r p := by
  unfold B.bound
  rw [B.taken_self (by omega) (by omega)]
  have a1 : r / 2048 * 31 ≤ r / 2048 * p := Int.mul_le_mul_of_nonneg_left h0 (by omega)
  have a2 : r / 2048 * p ≤ r / 2048 * 2017 := Int.mul_le_mul_of_nonneg_left h1 (by omega)
  omega
theorem TS.Ok.bit_k1 {a : TS} (h : a.Ok) {i : Int} (h0 : 0 ≤ i) (h1 : i < a.l.length) (bit : Int) : (a.bit i bit).s.k ≤ a.s.k + 1 := by
  have hx : a.l[i.toNat]? = some (a.l.getD i.toNat 0) := by
    rw [List.getD_eq_getElem?_getD, List.getElem?_eq_getElem (show i.toNat < a.l.length by omega)]; rfl
  have hp := h.f.get hx
  have := bound_mid h.s.r0 hp.1 hp.2
  exact cut_k1 _ _ this.1 this.2
theorem TS.Ok.put_k1 {a : TS} (h : a.Ok) {at_ n : Int} (ht : There a.l.length at_ n) {bs : Nat → Int} (hb : ∀ k, 0 ≤ bs k ∧ bs k ≤ 1) : ∀ k : Nat, k ≤ n.toNat → (a.put at_ bs k).s.k ≤ a.s.k + k
  | 0, _ => Nat.le_refl _
  | k + 1, hk => by
    have i1 := TS.Ok.put_k1 h ht hb k (by omega)
    have ⟨o1, _⟩ := h.put ht hb k (by omega)
    have hp := ht.place hb (k := k) (by omega)
    have hl := a.put_len at_ bs k
    have := o1.bit_k1 (i := at_ + node bs k) hp.1 (by omega) (bs k)
    simp only [TS.put]
    omega
theorem direct_k1 (v : Int) : ∀ (n : Nat) {s : S}, Ok s → (s.direct v n).k ≤ s.k + n
  | 0, _, _ => Nat.le_refl _
  | n + 1, s, h => by
    have i1 := direct_k1 v n (h.one (v / 2 ^ n % 2))
    have := one_k h (v / 2 ^ n % 2)
    rw [S.direct]
    omega
end R

section
variable {E w : World} {M : List HA} {Q : Value → World → Prop} {b : Nat} {ps : List (Nat × Nat)} {ls : List (List Int)} {l : List Int}

def rowOf (r : Int) (n : Nat) : Nat := if 0 ≤ r ∧ r < n then r.toNat else 0
theorem rowOf_lt (r : Int) {n : Nat} (h : 0 < n) : rowOf r n < n := by unfold rowOf; split <;> omega

theorem of_ok {s : Sl} {n : Nat} {v2 : Value} (hS : Sat E w (cel b ⟨130, [.slice s.a n s.c, v2]⟩ :: M)) (kind row at_ m v : Int) (hQ : ∀ w, Sat E w (cel b ⟨130, [.slice s.a n s.c, v2]⟩ :: M) → Q (.int .i64 (rowOf row n)) w) :
    Calls Try.prog 98 #[.pointer (some ⟨b, 0, none⟩), .agg #[.int .i64 kind, .int .i64 row, .int .i64 at_, .int .i64 m, .int .i64 v]] w (retP Q) := by
  refine pithlaw09_rows_of.calls ?_
  unfold pithlaw09_rows_of.F
  unfold rowOf at hQ
  repeat' (first | ((first | refine pA_lss_s ?_ ?_ | refine pA_geq_s ?_ ?_) <;> intro hc <;> try (exfalso; omega)) | refine pIf_t ?_ | refine pIf_f ?_ | refine gA_go (by rfl) ?_ | refine gA_no (by rfl) ?_ | refine pN_l hS (by first | rfl | assumption) ?_ | refine pL_l hS (by first | rfl | assumption) ?_ | (refine pDr_go hS ?_; clear hS; intro w hS) | (refine pN_bx hS (by rfl) ?_; clear hS; intro a w hS) | refine pN_via (by (intro K; simp (disch := omega) only [go_sem, pN_min, pN_max, w_u32, w_u64, Option.isNone_some, Option.isNone_none]; (try simp only [wrap_u32, wrap_u64]); rfl)) ?_ | refine pA_via (by (intro K; simp (disch := omega) only [go_sem, pN_min, pN_max, w_u32, w_u64, Option.isNone_some, Option.isNone_none]; (try simp only [wrap_u32, wrap_u64]); rfl)) ?_ | fail)
  · rw [if_neg (by omega)] at hQ
    exact hQ _ hS.to
  · rw [if_neg (by omega)] at hQ
    exact hQ _ hS.to
  · rw [if_pos (by omega), Int.toNat_of_nonneg (by omega)] at hQ
    exact hQ _ hS.to

theorem put_keep {st : R.S} (ho : R.Ok st) (hf : B.Fine l) (at_ n v : Int) (back : Bool) :
    (if R.There l.length at_ n ∧ R.Holds v n then R.TS.put ⟨st, l⟩ at_ (R.bitAt back n.toNat v) n.toNat else ⟨st, l⟩).Ok ∧ (if R.There l.length at_ n ∧ R.Holds v n then R.TS.put ⟨st, l⟩ at_ (R.bitAt back n.toNat v) n.toNat else ⟨st, l⟩).s.k ≤ st.k + 32 ∧ (if R.There l.length at_ n ∧ R.Holds v n then R.TS.put ⟨st, l⟩ at_ (R.bitAt back n.toNat v) n.toNat else ⟨st, l⟩).l.length = l.length := by
  have oa : R.TS.Ok ⟨st, l⟩ := ⟨ho, hf⟩
  split
  · rename_i hc
    have h16 := hc.1.2.1
    have := oa.put_k1 hc.1 (R.bitAt_01 back n.toNat v) n.toNat (Nat.le_refl _)
    exact ⟨(oa.put hc.1 (R.bitAt_01 back n.toNat v) n.toNat (Nat.le_refl _)).1, (by simp only at this; omega), R.TS.put_len _ _ _ _⟩
  · exact ⟨oa, Nat.le_add_right _ _, rfl⟩

theorem codes_end {e x i : Nat} {st : R.S} {s t : Sl} {p r : Nat} {m : List Int} (hS : Sat E w (cel b ⟨130, [.slice s.a ps.length s.c, .slice t.a ps.length t.c]⟩ :: rows cd_p_prob_Set s (ps.map ptrP) :: rows cd_p_pithref06_Set t (ps.map ptrR) ::
    PSet p m :: RSet r m :: bag (((ps.zip ls).map pairH).eraseIdx i) :: Enc e st :: REnc x st :: M)) (hp : ps[i]? = some (p, r)) (hl : ls[i]? = some l) : Sat E w (Hdr b ps :: bagL ps (ls.set i m) :: Enc e st :: REnc x st :: M) := by
  have h1 := Hdr.shut hS
  have h2 : Sat E w (PSet (p, r).1 m :: RSet (p, r).2 m :: bag (((ps.zip ls).map pairH).eraseIdx i) :: Hdr b ps :: Enc e st :: REnc x st :: M) := h1.to
  have h3 := bagL.into h2 hp hl
  exact h3.to

set_option maxHeartbeats 4000000 in
theorem codes_ok {e x : Nat} {st : R.S} (hS : Sat E w (Hdr b ps :: bagL ps ls :: Enc e st :: REnc x st :: M)) (hp : 0 < ps.length) (hr : RowsOk ps ls) (ho : R.Ok st) (hk : st.k + 200 ≤ 140737488355328) (kind row at_ n v : Int) (v1 : v < 9223372036854775808)
    (hQ : ∀ st' ls' w, RowsOk ps ls' → R.Ok st' → st'.k ≤ st.k + 32 → Sat E w (Hdr b ps :: bagL ps ls' :: Enc e st' :: REnc x st' :: M) → Q (.bool true) w) :
    Calls Try.prog 67 #[.pointer (some ⟨b, 0, none⟩), .pointer (some ⟨e, 0, none⟩), .pointer (some ⟨x, 0, none⟩), .agg #[.int .i64 kind, .int .i64 row, .int .i64 at_, .int .i64 n, .int .i64 v]] w (retP Q) := by
  refine pithlaw09_rows_codes.calls ?_
  unfold pithlaw09_rows_codes.F
  obtain ⟨⟨s, t⟩, hS⟩ := Hdr.opn hS
  have hi := rowOf_lt row hp
  have hls := hr.len
  obtain ⟨⟨p, r⟩, hpr⟩ : ∃ y, ps[rowOf row ps.length]? = some y := ⟨ps[rowOf row ps.length]'hi, by simp⟩
  obtain ⟨l, hl⟩ : ∃ y, ls[rowOf row ps.length]? = some y := ⟨ls[rowOf row ps.length]'(by omega), by simp [hls, hi]⟩
  have hx1 : (ps.map ptrP)[rowOf row ps.length]? = some (some ⟨p, 0, none⟩) := by rw [List.getElem?_map, hpr]; rfl
  have hx2 : (ps.map ptrR)[rowOf row ps.length]? = some (some ⟨r, 0, none⟩) := by rw [List.getElem?_map, hpr]; rfl
  have hlen1 : (ps.map ptrP).length = ps.length := List.length_map _
  have hlen2 : (ps.map ptrR).length = ps.length := List.length_map _
  have hS := bagL.out (hS.fd (bagL ps)) hpr hl
  dsimp only at hS
  have hf := hr.fine l (List.mem_of_getElem? hl)
  have hsm := hr.small l (List.mem_of_getElem? hl)
  have hcv : ∀ w, Sem.run Try.prog (oConv 3 26 (.int .i64 v)) w = .ok (.value (.int .u32 (v % 4294967296))) w := fun w => by
    rw [← wrap_u32]; exact run_conv_int .i64 Try.underlying3 Try.underlying26 v
  repeat' (first | (refine pc_pithlaw09_rows_of (of_ok (hS.fd (cel b)) _ _ _ _ _ ?_); clear hS; intro w hS) | (refine pN_eql_s ?_ ?_ <;> intro hc <;> try (exfalso; first | omega | exact hc rfl | exact hc (by assumption) | exact absurd hc (by assumption))) | refine pIf_t ?_ | refine pIf_f ?_ | refine pN_l hS (by first | rfl | assumption) ?_ | refine pL_l hS (by first | rfl | assumption) ?_ | refine pL_ld1 ha hS ?_ | refine pL_la hS (by rfl) ?_ | (refine pDr_go hS ?_; clear hS; intro w hS) | (refine pN_bx hS (by rfl) ?_; clear hS; intro a w hS) | refine ⟨⟨(by first | exact run_l hS (by first | rfl | assumption) | exact run_st hS (by first | rfl | omega) | exact run_ld1 ha hS | exact fun _ => run_l hS (by rfl) | exact fun _ => run_st hS (by first | rfl | omega) | exact fun _ => run_ld1 ha hS | exact fun h => Bool.noConfusion h), trivial⟩, ?_⟩ | refine pA_ixk hS _ (by first | rfl | (exact (Int.toNat_of_nonneg (by omega)).symm)) (by first | rfl | omega | simpa only [go_sem] using True.intro | (simp only [go_sem]; omega)) (by assumption) fun a ha hel => ?_ | refine pN_via (by (intro K; simp (disch := omega) only [go_sem, pN_min, pN_max, w_u32, w_u64, Option.isNone_some, Option.isNone_none]; (try simp only [wrap_u32, wrap_u64]); rfl)) ?_ | refine pA_via (by (intro K; simp (disch := omega) only [go_sem, pN_min, pN_max, w_u32, w_u64, Option.isNone_some, Option.isNone_none]; (try simp only [wrap_u32, wrap_u64]); rfl)) ?_ | refine pL_via (by (intro K; simp (disch := omega) only [go_sem, pN_min, pN_max, w_u32, w_u64, Option.isNone_some, Option.isNone_none]; (try simp only [wrap_u32, wrap_u64]); rfl)) ?_ | fail)
  · refine pc_tree_Put (Put_ok (hS.fd2 (Enc e) (PSet p)) ho hf (by omega) at_ n v (by omega) ?_)
    clear hS
    intro w hS
    have hu := put_keep ho hf at_ n v false
    repeat' (first | (refine pc_pithref09_Put (RPut_ok (hS.fd2 (REnc x) (RSet r)) ho hf (by omega) at_ n v v1 false (by omega) ?_); clear hS; intro w hS) | (refine pA_eql_s ?_ ?_ <;> intro hc <;> try (exfalso; first | omega | exact hc rfl | exact hc (by assumption) | exact absurd hc (by assumption))) | refine ⟨trivial, ?_⟩ | refine ⟨⟨(by first | exact run_l hS (by first | rfl | assumption) | exact run_st hS (by first | rfl | omega) | exact run_ld1 ha hS | exact fun _ => run_l hS (by rfl) | exact fun _ => run_st hS (by first | rfl | omega) | exact fun _ => run_ld1 ha hS | exact fun h => Bool.noConfusion h), (by first | exact run_l hS (by first | rfl | assumption) | exact run_st hS (by first | rfl | omega) | exact run_ld1 ha hS | exact fun _ => run_l hS (by rfl) | exact fun _ => run_st hS (by first | rfl | omega) | exact fun _ => run_ld1 ha hS | exact fun h => Bool.noConfusion h), (by first | exact run_l hS (by first | rfl | assumption) | exact run_st hS (by first | rfl | omega) | exact run_ld1 ha hS | exact fun _ => run_l hS (by rfl) | exact fun _ => run_st hS (by first | rfl | omega) | exact fun _ => run_ld1 ha hS | exact fun h => Bool.noConfusion h), trivial⟩, ?_⟩ | fail)
    generalize (if R.There l.length at_ n ∧ R.Holds v n then R.TS.put ⟨st, l⟩ at_ (R.bitAt false n.toNat v) n.toNat else ⟨st, l⟩) = u at hS hu
    exact hQ u.s (ls.set _ u.l) _ (hr.set _ hu.1.f (by omega)) hu.1.s hu.2.1 (codes_end (s := s) (t := t) (m := u.l) (st := u.s) hS.to hpr hl)
  · refine pc_tree_PutBack (PutBack_ok (hS.fd2 (Enc e) (PSet p)) ho hf (by omega) at_ n v (by omega) ?_)
    clear hS
    intro w hS
    have hu := put_keep ho hf at_ n v true
    repeat' (first | (refine pc_pithref09_Put (RPut_ok (hS.fd2 (REnc x) (RSet r)) ho hf (by omega) at_ n v v1 true (by omega) ?_); clear hS; intro w hS) | (refine pA_eql_s ?_ ?_ <;> intro hc <;> try (exfalso; first | omega | exact hc rfl | exact hc (by assumption) | exact absurd hc (by assumption))) | refine ⟨trivial, ?_⟩ | refine ⟨⟨(by first | exact run_l hS (by first | rfl | assumption) | exact run_st hS (by first | rfl | omega) | exact run_ld1 ha hS | exact fun _ => run_l hS (by rfl) | exact fun _ => run_st hS (by first | rfl | omega) | exact fun _ => run_ld1 ha hS | exact fun h => Bool.noConfusion h), (by first | exact run_l hS (by first | rfl | assumption) | exact run_st hS (by first | rfl | omega) | exact run_ld1 ha hS | exact fun _ => run_l hS (by rfl) | exact fun _ => run_st hS (by first | rfl | omega) | exact fun _ => run_ld1 ha hS | exact fun h => Bool.noConfusion h), (by first | exact run_l hS (by first | rfl | assumption) | exact run_st hS (by first | rfl | omega) | exact run_ld1 ha hS | exact fun _ => run_l hS (by rfl) | exact fun _ => run_st hS (by first | rfl | omega) | exact fun _ => run_ld1 ha hS | exact fun h => Bool.noConfusion h), trivial⟩, ?_⟩ | fail)
    generalize (if R.There l.length at_ n ∧ R.Holds v n then R.TS.put ⟨st, l⟩ at_ (R.bitAt true n.toNat v) n.toNat else ⟨st, l⟩) = u at hS hu
    exact hQ u.s (ls.set _ u.l) _ (hr.set _ hu.1.f (by omega)) hu.1.s hu.2.1 (codes_end (s := s) (t := t) (m := u.l) (st := u.s) hS.to hpr hl)
  · refine pc_rcenc_Encoder_Bit (Bit_ok (hS.fd2 (Enc e) (PSet p)) hf (by omega) at_ v ?_)
    clear hS
    intro w hS
    repeat' (first | (refine pc_pithref07_Encoder_Bit (RBit_ok (hS.fd2 (REnc x) (RSet r)) ho hf (by omega) at_ v ?_); clear hS; intro w hS) | (refine pA_eql_s ?_ ?_ <;> intro hc <;> try (exfalso; first | omega | exact hc rfl | exact hc (by assumption) | exact absurd hc (by assumption))) | refine ⟨trivial, ?_⟩ | refine ⟨⟨(by first | exact run_l hS (by first | rfl | assumption) | exact run_st hS (by first | rfl | omega) | exact run_ld1 ha hS | exact fun _ => run_l hS (by rfl) | exact fun _ => run_st hS (by first | rfl | omega) | exact fun _ => run_ld1 ha hS | exact fun h => Bool.noConfusion h), (by first | exact run_l hS (by first | rfl | assumption) | exact run_st hS (by first | rfl | omega) | exact run_ld1 ha hS | exact fun _ => run_l hS (by rfl) | exact fun _ => run_st hS (by first | rfl | omega) | exact fun _ => run_ld1 ha hS | exact fun h => Bool.noConfusion h), trivial⟩, ?_⟩ | fail)
    by_cases hc : 0 ≤ at_ ∧ at_ < l.length
    · simp only [if_pos hc] at hS
      have oa : R.TS.Ok ⟨st, l⟩ := ⟨ho, hf⟩
      have h1 := (oa.bit hc.1 hc.2 v).1
      have h2 := oa.bit_k1 hc.1 hc.2 v
      have h3 := R.TS.bit_len ⟨st, l⟩ at_ v
      dsimp only [R.TS.bit] at h1 h2 h3
      have h1f : B.Fine (l.set at_.toNat (B.next (l.getD at_.toNat 0) v)) := h1.f
      have h1s : R.Ok (st.cut (B.bound st.R (l.getD at_.toNat 0)) v) := h1.s
      exact hQ (st.cut (B.bound st.R (l.getD at_.toNat 0)) v) (ls.set _ (l.set at_.toNat (B.next (l.getD at_.toNat 0) v))) _ (hr.set _ h1f (by omega)) h1s (by omega) (codes_end (s := s) (t := t) (m := l.set at_.toNat (B.next (l.getD at_.toNat 0) v)) (st := st.cut (B.bound st.R (l.getD at_.toNat 0)) v) hS.to hpr hl)
    · simp only [if_neg hc] at hS
      exact hQ st (ls.set _ l) _ (hr.set _ hf hsm) ho (by omega) (codes_end (s := s) (t := t) (m := l) (st := st) hS.to hpr hl)
  · refine pc_rcenc_Encoder_Direct (Direct_ok (hS.fd (Enc e)) (by omega) _ n (by omega) (by omega) ?_)
    clear hS
    intro w hS
    refine ⟨⟨run_l hS rfl, hcv _, run_l hS rfl, trivial⟩, ?_⟩
    repeat' (first | (refine pc_pithref07_Encoder_Direct (RDirect_ok (hS.fd (REnc x)) ho (by omega) _ n (by omega) (by omega) ?_); clear hS; intro w hS) | (refine pA_eql_s ?_ ?_ <;> intro hc <;> try (exfalso; first | omega | exact hc rfl | exact hc (by assumption) | exact absurd hc (by assumption))) | refine ⟨trivial, ?_⟩ | fail)
    by_cases hc : 0 ≤ n ∧ n ≤ 32
    · simp only [if_pos hc] at hS
      have h1 := R.direct_k1 (v % 4294967296) n.toNat ho
      exact hQ _ (ls.set _ l) _ (hr.set _ hf hsm) (R.Ok.direct (v % 4294967296) n.toNat ho) (by omega) (codes_end (s := s) (t := t) (m := l) (st := st.direct (v % 4294967296) n.toNat) hS.to hpr hl)
    · simp only [if_neg hc] at hS
      exact hQ st (ls.set _ l) _ (hr.set _ hf hsm) ho (by omega) (codes_end (s := s) (t := t) (m := l) (st := st) hS.to hpr hl)
  · repeat' (first | (refine pc_tree_Cost (TCost_ok (hS.fd (PSet p)) at_ n v (by omega) ?_); clear hS; intro w hS) | (refine pc_pithref09_Cost (RCostW_ok (hS.fd (RSet r)) at_ n v v1 _ (by omega) ?_); clear hS; intro w hS) | (refine pc_tree_CostBack (TCostBack_ok (hS.fd (PSet p)) at_ n v (by omega) ?_); clear hS; intro w hS) | (refine pN_eql_s ?_ ?_ <;> intro hc <;> try (exfalso; first | omega | exact hc rfl | exact hc (by assumption) | exact absurd hc (by assumption))) | refine pGd_go (by rfl) ?_ | refine pN_l hS (by first | rfl | assumption) ?_ | refine pN_via (by (intro K; simp (disch := omega) only [go_sem, pN_min, pN_max, w_u32, w_u64, Option.isNone_some, Option.isNone_none]; (try simp only [wrap_u32, wrap_u64]); rfl)) ?_ | fail)
    exact hQ st (ls.set _ l) _ (hr.set _ hf hsm) ho (by omega) (codes_end (s := s) (t := t) (m := l) (st := st) hS.to hpr hl)

theorem same_ok (hS : Sat E w (Hdr b ps :: bagL ps ls :: M)) (hr : RowsOk ps ls) (hn : ps.length ≤ 140737488355328) (hQ : ∀ w, Sat E w (Hdr b ps :: bagL ps ls :: M) → Q (.bool true) w) :
    Calls Try.prog 68 #[.pointer (some ⟨b, 0, none⟩)] w (retP Q) := by
  refine pithlaw09_rows_same.calls ?_
  unfold pithlaw09_rows_same.F
  have hls := hr.len
  refine ⟨fun v w => ∃ k : Nat, v = .int .i64 k ∧ k ≤ ps.length ∧ Sat E w (Hdr b ps :: bagL ps ls :: M), fun v _ => ps.length - (RowKit.intOf v).toNat, ⟨0, rfl, Nat.zero_le _, hS⟩, ?_⟩
  clear hS
  rintro _ _ w ⟨k, rfl, hk, hS⟩
  obtain ⟨⟨s, t⟩, hS⟩ := Hdr.opn hS
  have hlen1 : (ps.map ptrP).length = ps.length := List.length_map _
  have hlen2 : (ps.map ptrR).length = ps.length := List.length_map _
  by_cases hlt : k < ps.length
  · obtain ⟨⟨p, r⟩, hpr⟩ : ∃ y, ps[k]? = some y := ⟨ps[k]'hlt, by simp⟩
    obtain ⟨l, hl⟩ : ∃ y, ls[k]? = some y := ⟨ls[k]'(by omega), by simp [hls, hlt]⟩
    have hx1 : (ps.map ptrP)[k]? = some (some ⟨p, 0, none⟩) := by rw [List.getElem?_map, hpr]; rfl
    have hx2 : (ps.map ptrR)[k]? = some (some ⟨r, 0, none⟩) := by rw [List.getElem?_map, hpr]; rfl
    have hsm := hr.small l (List.mem_of_getElem? hl)
    repeat' (first | (refine pN_lss_s ?_ ?_ <;> intro hc <;> try (exfalso; omega)) | refine pIf_t ?_ | refine pN_l hS (by first | rfl | assumption) ?_ | refine pN_via (by (intro K; simp (disch := omega) only [go_sem, pN_min, pN_max, w_u32, w_u64, Option.isNone_some, Option.isNone_none]; (try simp only [wrap_u32, wrap_u64]); rfl)) ?_ | fail)
    have hS := bagL.out (hS.fd (bagL ps)) hpr hl
    dsimp only at hS
    have hS : Sat E w (PSet p l :: RSet r l :: cel b ⟨130, [.slice s.a ps.length s.c, .slice t.a ps.length t.c]⟩ :: rows cd_p_prob_Set s (ps.map ptrP) :: rows cd_p_pithref06_Set t (ps.map ptrR) :: bag (((ps.zip ls).map pairH).eraseIdx k) :: M) := hS.to
    refine ⟨fun v w => ∃ i : Nat, v = .int .i64 i ∧ i ≤ l.length ∧ Sat E w (PSet p l :: RSet r l :: cel b ⟨130, [.slice s.a ps.length s.c, .slice t.a ps.length t.c]⟩ :: rows cd_p_prob_Set s (ps.map ptrP) :: rows cd_p_pithref06_Set t (ps.map ptrR) :: bag (((ps.zip ls).map pairH).eraseIdx k) :: M), fun v _ => l.length - (RowKit.intOf v).toNat, ⟨0, rfl, Nat.zero_le _, hS⟩, ?_⟩
    clear hS
    rintro _ _ w ⟨i, rfl, hi, hS⟩
    obtain ⟨s2, hS⟩ := RSet.opn (hS.fd (RSet r))
    by_cases hli : i < l.length
    · obtain ⟨y, hy⟩ : ∃ y, l[i]? = some y := ⟨l[i]'hli, by simp⟩
      repeat' (first | (refine pc_prob_Set_At (At_in (hS.fd (PSet p)) (i : Int) (by omega) (by rw [Int.toNat_natCast]; exact hy) ?_); clear hS; intro w hS) | (refine pN_lss_s ?_ ?_ <;> intro hc <;> try (exfalso; omega)) | (refine pN_neq_s ?_ ?_ <;> intro hc <;> try (exfalso; first | omega | exact hc rfl | exact hc (by assumption) | exact absurd hc (by assumption))) | refine pIf_t ?_ | refine pIf_f ?_ | refine pGd_go (by rfl) ?_ | refine pN_l hS (by first | rfl | assumption) ?_ | refine pN_ld1 ha hS ?_ | refine pN_ixk hS _ (by first | rfl | (exact (Int.toNat_of_nonneg (by omega)).symm)) (by first | rfl | omega | simpa only [go_sem] using True.intro | (simp only [go_sem]; omega)) (by assumption) fun a ha hel => ?_ | refine pN_via (by (intro K; simp (disch := omega) only [go_sem, pN_min, pN_max, w_u32, w_u64, Option.isNone_some, Option.isNone_none]; (try simp only [wrap_u32, wrap_u64]); rfl)) ?_ | fail)
      have hS := RSet.shut (b := r) (s := s2) hS rfl
      exact ⟨⟨i + 1, rfl, by omega, hS.to⟩, by simp [RowKit.intOf] <;> omega⟩
    · repeat' (first | (refine pN_lss_s ?_ ?_ <;> intro hc <;> try (exfalso; omega)) | refine pIf_f ?_ | refine pN_l hS (by first | rfl | assumption) ?_ | refine pN_ld1 ha hS ?_ | refine pN_ixk hS _ (by first | rfl | (exact (Int.toNat_of_nonneg (by omega)).symm)) (by first | rfl | omega | simpa only [go_sem] using True.intro | (simp only [go_sem]; omega)) (by assumption) fun a ha hel => ?_ | refine pN_via (by (intro K; simp (disch := omega) only [go_sem, pN_min, pN_max, w_u32, w_u64, Option.isNone_some, Option.isNone_none]; (try simp only [wrap_u32, wrap_u64]); rfl)) ?_ | fail)
      have hS := RSet.shut (b := r) (s := s2) hS rfl
      have hS : Sat E w (cel b ⟨130, [.slice s.a ps.length s.c, .slice t.a ps.length t.c]⟩ :: rows cd_p_prob_Set s (ps.map ptrP) :: rows cd_p_pithref06_Set t (ps.map ptrR) :: PSet (p, r).1 l :: RSet (p, r).2 l :: bag (((ps.zip ls).map pairH).eraseIdx k) :: M) := hS.to
      have hS := Hdr.shut hS
      have hS : Sat E w (PSet (p, r).1 l :: RSet (p, r).2 l :: bag (((ps.zip ls).map pairH).eraseIdx k) :: Hdr b ps :: M) := hS.to
      have hS := bagL.into hS hpr hl
      have e : ls.set k l = ls := by
        apply List.ext_getElem?
        intro j
        rw [List.getElem?_set]
        split
        · rename_i h; subst h; rw [if_pos (by omega), hl]
        · rfl
      rw [e] at hS
      exact ⟨⟨k + 1, rfl, by omega, hS.to⟩, by simp [RowKit.intOf] <;> omega⟩
  · repeat' (first | (refine pN_lss_s ?_ ?_ <;> intro hc <;> try (exfalso; omega)) | refine pIf_f ?_ | refine pN_l hS (by first | rfl | assumption) ?_ | refine pN_via (by (intro K; simp (disch := omega) only [go_sem, pN_min, pN_max, w_u32, w_u64, Option.isNone_some, Option.isNone_none]; (try simp only [wrap_u32, wrap_u64]); rfl)) ?_ | fail)
    exact hQ _ (Hdr.shut (s := s) (t := t) hS)
end

end Go.Proofs.Ytoejaggkedlfmaa
