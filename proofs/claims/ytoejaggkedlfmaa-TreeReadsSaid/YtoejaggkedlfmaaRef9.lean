/-
  Package pithref09: the document's way along a tree.
-/
import Derived.Test.YtoejaggkedlfmaaLfPithref09
import Derived.Test.YtoejaggkedlfmaaRef7
import Derived.Test.YtoejaggkedlfmaaTPure
namespace Go.Proofs.Ytoejaggkedlfmaa
open Go
set_option linter.unusedSimpArgs false
set_option linter.unnecessarySimpa false
set_option linter.unusedSectionVars false
set_option linter.unusedVariables false
attribute [local irreducible] oMv oV oU oCall oCallV oBi oBin oUn oLoad oStore oNil oFld oField oIdx oIndex oPick oAlloc oBox oBuild oBs oConv oMk oSl oExt oFn oIface oMap oLook oMapUp oRange oNext oAssert oPanic oRes pN pA pL pDr pIf gA pGd

namespace R
/-- The first k bits of a row of bits. -/
def bitL (bs : Nat → Int) (k : Nat) : List Int := (List.range k).map bs
/-- The first k steps of a way. -/
def wayL (at_ : Int) (bs : Nat → Int) (k : Nat) : List T_pithref09_Step := (List.range k).map fun j => ⟨at_ + node bs j, bs j⟩
theorem bitL_len (bs : Nat → Int) (k : Nat) : (bitL bs k).length = k := by simp [bitL]
theorem wayL_len (at_ : Int) (bs : Nat → Int) (k : Nat) : (wayL at_ bs k).length = k := by simp [wayL]
theorem bitL_snoc (bs : Nat → Int) (k : Nat) : bitL bs k ++ [bs k] = bitL bs (k + 1) := by simp [bitL, List.range_succ]
theorem wayL_snoc (at_ : Int) (bs : Nat → Int) (k : Nat) : wayL at_ bs k ++ [⟨at_ + node bs k, bs k⟩] = wayL at_ bs (k + 1) := by simp [wayL, List.range_succ]
theorem bitL_get {bs : Nat → Int} {k j : Nat} (h : j < k) : (bitL bs k)[j]? = some (bs j) := by simp [bitL, h]
theorem wayL_get {at_ : Int} {bs : Nat → Int} {k j : Nat} (h : j < k) : (wayL at_ bs k)[j]? = some ⟨at_ + node bs j, bs j⟩ := by simp [wayL, h]
end R

section
variable {E w : World} {M : List HA} {Q : Value → World → Prop} {b p : Nat} {s : R.S} {l : List Int}

theorem two_ok (n : Nat) (hn : n ≤ 16) (hQ : Q (.int .i64 (2 ^ n)) w) : Calls Try.prog 120 #[.int .i64 n] w (retP Q) := by
  refine pithref09_two.calls ?_
  unfold pithref09_two.F
  refine ⟨fun v i w' => ∃ j : Nat, v = .int .i64 (2 ^ j) ∧ i = .int .i64 j ∧ j ≤ n ∧ w' = w, fun _ i _ => n - (RowKit.intOf i).toNat, ⟨0, rfl, rfl, Nat.zero_le _, rfl⟩, ?_⟩
  rintro _ _ _ w1 ⟨j, rfl, rfl, hj, rfl⟩
  have h2 : (2 : Int) ^ j ≤ 2 ^ 16 := R.two_le (by omega)
  have h3 : (0 : Int) < 2 ^ j := Int.pow_pos (by omega)
  have e2 : (2 : Int) ^ 16 = 65536 := by decide
  repeat' (first | (refine pN_lss_s ?_ ?_ <;> intro hc <;> try (exfalso; omega)) | refine pIf_t ?_ | refine pIf_f ?_ | refine pN_via (by (intro K; simp (disch := omega) only [go_sem, pN_min, pN_max, w_u32, w_u64, Option.isNone_some, Option.isNone_none]; (try simp only [wrap_u32, wrap_u64]); rfl)) ?_ | fail)
  · exact ⟨⟨j + 1, by rw [Int.pow_succ, Int.mul_comm], rfl, by omega, rfl⟩, by simp [RowKit.intOf] <;> omega⟩
  · obtain rfl : j = n := by omega
    exact hQ

theorem Rthere_ok (hS : Sat E w (RSet p l :: M)) (hl : l.length ≤ 1048576) (at_ n : Int) (hQ : ∀ w, Sat E w (RSet p l :: M) → Q (.bool (decide (R.There l.length at_ n))) w) : Calls Try.prog 119 #[.pointer (some ⟨p, 0, none⟩), .int .i64 at_, .int .i64 n] w (retP Q) := by
  refine pithref09_There.calls ?_
  unfold pithref09_There.F
  obtain ⟨sl, hS⟩ := RSet.opn hS
  have fin : ∀ w b, (b = true ↔ R.There l.length at_ n) → Sat E w (RSet p l :: M) → Q (.bool b) w := by
    intro w b hb hS
    have := hQ w hS
    by_cases h : R.There l.length at_ n
    · rw [decide_eq_true h] at this
      rw [hb.2 h]; exact this
    · rw [decide_eq_false h] at this
      have : b = false := by
        cases b
        · rfl
        · exact absurd (hb.1 rfl) h
      rw [this]; assumption
  have two : ∀ (w : World) (K : Value → World → Prop), 0 ≤ n → n ≤ 16 → K (.int .i64 (2 ^ n.toNat)) w → pN Try.prog (oCall 120 [.int .i64 n]) w K := by
    intro w K h0 h1 h
    obtain ⟨m, rfl⟩ : ∃ m : Nat, n = m := ⟨n.toNat, by omega⟩
    exact pc_pithref09_two (two_ok m (by omega) h)
  have h3 : 0 ≤ n → n ≤ 16 → (0 : Int) < 2 ^ n.toNat ∧ (2 : Int) ^ n.toNat ≤ 65536 := fun a b => ⟨Int.pow_pos (by omega), by
    rw [show (65536 : Int) = 2 ^ 16 from by decide]; exact R.two_le (by omega)⟩
  repeat' (first | refine two _ _ (by omega) (by omega) ?_ | ((first | refine pA_leq_s ?_ ?_ | refine pA_geq_s ?_ ?_) <;> intro hc <;> try (exfalso; omega)) | refine gA_go (by rfl) ?_ | refine gA_no (by rfl) ?_ | refine pGd_go (by rfl) ?_ | refine pGd_no (by rfl) ?_ | refine pL_l hS (by first | rfl | assumption) ?_ | (refine pDr_go hS ?_; clear hS; intro w hS) | refine ⟨⟨(by first | exact run_l hS (by first | rfl | assumption) | exact run_st hS (by first | rfl | omega) | exact run_ld1 ha hS | exact fun _ => run_l hS (by rfl) | exact fun _ => run_st hS (by first | rfl | omega) | exact fun _ => run_ld1 ha hS | exact fun h => Bool.noConfusion h), trivial⟩, ?_⟩ | refine pA_via (by (intro K; simp (disch := omega) only [go_sem, pN_min, pN_max, w_u32, w_u64, Option.isNone_some, Option.isNone_none]; (try simp only [wrap_u32, wrap_u64]); rfl)) ?_ | fail)
  all_goals
    refine fin _ _ ?_ (RSet.shut (b := p) (s := sl) hS rfl)
    unfold R.There
    first
      | (refine ⟨fun _ => (by omega), fun _ => rfl⟩)
      | (refine ⟨fun h => (by cases h), fun h => (by omega)⟩)

theorem refused_ok (hS : Sat E w (RSet p l :: M)) (hl : l.length ≤ 1048576) (at_ n v : Int) (hQ : ∀ w, Sat E w (RSet p l :: M) → Q (.bool (!decide (R.There l.length at_ n ∧ R.Holds v n))) w) :
    Calls Try.prog 114 #[.pointer (some ⟨p, 0, none⟩), .int .i64 at_, .int .i64 n, .int .i64 v] w (retP Q) := by
  refine pithref09_refused.calls ?_
  unfold pithref09_refused.F
  have fin : ∀ w b, (b = false ↔ R.There l.length at_ n ∧ R.Holds v n) → Sat E w (RSet p l :: M) → Q (.bool b) w := by
    intro w b hb hS
    have := hQ w hS
    by_cases h : R.There l.length at_ n ∧ R.Holds v n
    · rw [decide_eq_true h] at this
      rw [hb.2 h]; exact this
    · rw [decide_eq_false h] at this
      have : b = true := by
        cases b
        · exact absurd (hb.1 rfl) h
        · rfl
      rw [this]; assumption
  by_cases ht : R.There l.length at_ n
  · have ht' := ht
    obtain ⟨n0, n1, a0, a1, a2⟩ := ht'
    have t1 : decide (R.There l.length at_ n) = true := decide_eq_true ht
    refine pc_pithref09_There (Rthere_ok hS hl at_ n ?_)
    rw [t1]
    clear hS
    intro w hS
    obtain ⟨m, rfl⟩ : ∃ m : Nat, n = m := ⟨n.toNat, by omega⟩
    repeat' (first | refine pc_pithref09_two (two_ok m (by omega) ?_) | ((first | refine pN_lss_s ?_ ?_ | refine pN_geq_s ?_ ?_) <;> intro hc <;> try (exfalso; omega)) | refine pGd_go (by rfl) ?_ | refine pGd_no (by rfl) ?_ | refine pN_via (by (intro K; simp (disch := omega) only [go_sem, pN_min, pN_max, w_u32, w_u64, Option.isNone_some, Option.isNone_none]; (try simp only [wrap_u32, wrap_u64]); rfl)) ?_ | fail)
    all_goals
      refine fin _ _ ?_ hS
      unfold R.Holds
      rw [Int.toNat_natCast]
      first
        | (refine ⟨fun _ => ⟨ht, (by omega)⟩, fun _ => rfl⟩)
        | (refine ⟨fun h => (by cases h), fun h => (by omega)⟩)
  · have t1 : decide (R.There l.length at_ n) = false := decide_eq_false ht
    refine pc_pithref09_There (Rthere_ok hS hl at_ n ?_)
    rw [t1]
    clear hS
    intro w hS
    repeat' (first | refine pGd_no (by rfl) ?_ | refine pN_via (by (intro K; simp (disch := omega) only [go_sem, pN_min, pN_max, w_u32, w_u64, Option.isNone_some, Option.isNone_none]; (try simp only [wrap_u32, wrap_u64]); rfl)) ?_ | fail)
    refine fin _ _ ⟨fun h => (by cases h), fun h => absurd h.1 ht⟩ hS

theorem bits_ok (hS : Sat E w M) (n : Nat) (hn : n ≤ 16) (v : Int) (v0 : 0 ≤ v) (v1 : v < 9223372036854775808) (back : Bool) (hQ : ∀ s w, Sat E w (rows cd_int s (R.bitL (R.bitAt back n v) n) :: M) → Q (.slice s.a n s.c) w) :
    Calls Try.prog 116 #[.int .i64 n, .int .i64 v, .bool back] w (retP Q) := by
  refine pithref09_bits.calls ?_
  unfold pithref09_bits.F
  have hS : Sat E w (rows cd_int ⟨none, 0⟩ (R.bitL (R.bitAt back n v) 0) :: M) := hS.nil 3 1
  refine ⟨fun x i w => ∃ (j : Nat) (s : Sl), x = .slice s.a j s.c ∧ i = .int .i64 j ∧ j ≤ n ∧ Sat E w (rows cd_int s (R.bitL (R.bitAt back n v) j) :: M), fun _ i _ => n - (RowKit.intOf i).toNat, ⟨0, _, rfl, rfl, Nat.zero_le _, hS⟩, ?_⟩
  clear hS
  rintro _ _ _ w ⟨j, s, rfl, rfl, hj, hS⟩
  have hlen := R.bitL_len (R.bitAt back n v) j
  repeat' (first | (refine pN_lss_s ?_ ?_ <;> intro hc <;> try (exfalso; omega)) | refine pIf_t ?_ | refine pIf_f ?_ | fail)
  · refine ⟨fun x w => ∃ s : Sl, x = .slice s.a (j + 1 : Nat) s.c ∧ Sat E w (rows cd_int s (R.bitL (R.bitAt back n v) (j + 1)) :: M), ?_, ?_⟩
    · repeat' (first | refine pN_via (by (intro K; simp (disch := omega) only [go_sem, pN_min, pN_max, w_u32, w_u64, Option.isNone_some, Option.isNone_none]; (try simp only [wrap_u32, wrap_u64]); rfl)) ?_ | fail)
      refine ⟨fun x w => x = .int .i64 (if back then j else n - 1 - j : Nat) ∧ Sat E w (rows cd_int s (R.bitL (R.bitAt back n v) j) :: M), ?_, ?_⟩
      · cases back
        · repeat' (first | refine pIf_f ?_ | fail)
          exact ⟨congrArg (Value.int .i64) (by simp only [Bool.false_eq_true, if_false]; omega), hS⟩
        · repeat' (first | refine pIf_t ?_ | fail)
          exact ⟨rfl, hS⟩
      clear hS
      rintro _ _ w ⟨rfl, hS⟩
      refine pc_pithref09_two (two_ok _ (by split <;> omega) ?_)
      have q0 : 0 ≤ v / 2 ^ (if back then j else n - 1 - j) := Int.ediv_nonneg v0 (Int.le_of_lt (Int.pow_pos (by omega)))
      have q1 : v / 2 ^ (if back then j else n - 1 - j) ≤ v := Int.ediv_le_self _ v0
      have q2 : (0 : Int) < 2 ^ (if back then j else n - 1 - j) := Int.pow_pos (by omega)
      have eb : v / 2 ^ (if back then j else n - 1 - j) % 2 = R.bitAt back n v j := rfl
      repeat' (first | (refine pN_b1 hS (by rfl) (by decide) ?_; clear hS; intro s w hS) | (refine pN_app hS (by first | rfl | omega | simpa only [go_sem] using True.intro | (simp only [go_sem]; omega)) (by first | rfl | omega | simpa only [go_sem] using True.intro | (simp only [go_sem]; omega)) (by first | omega | (simp only [go_sem]; omega)) ?_; clear hS; intro s w hS) | refine pN_via (by (intro K; simp (disch := omega) only [go_sem, pN_min, pN_max, w_u32, w_u64, Option.isNone_some, Option.isNone_none]; (try simp only [wrap_u32, wrap_u64]); rfl)) ?_ | fail)
      rw [eb, R.bitL_snoc] at hS
      exact ⟨_, congrArg (fun k : Nat => Value.slice _ k _) (by simp only [List.length_append, hlen, List.length_cons, List.length_nil]), hS.to⟩
    · clear hS
      rintro _ _ w ⟨s, rfl, hS⟩
      repeat' (first | refine pN_via (by (intro K; simp (disch := omega) only [go_sem, pN_min, pN_max, w_u32, w_u64, Option.isNone_some, Option.isNone_none]; (try simp only [wrap_u32, wrap_u64]); rfl)) ?_ | fail)
      exact ⟨⟨j + 1, s, rfl, rfl, by omega, hS⟩, by simp [RowKit.intOf] <;> omega⟩
  · obtain rfl : j = n := by omega
    exact hQ _ _ hS
theorem Way_ok {s : Sl} (n : Nat) (at_ : Int) (bs : Nat → Int) (hb : ∀ k, 0 ≤ bs k ∧ bs k ≤ 1) (hS : Sat E w (rows cd_int s (R.bitL bs n) :: M)) (hn : n ≤ 17) (a0 : 0 ≤ at_) (a1 : at_ ≤ 1099511627776)
    (hQ : ∀ t w, Sat E w (rows cd_pithref09_Step t (R.wayL at_ bs n) :: rows cd_int s (R.bitL bs n) :: M) → Q (.slice t.a n t.c) w) :
    Calls Try.prog 115 #[.int .i64 at_, .slice s.a n s.c] w (retP Q) := by
  refine pithref09_Way.calls ?_
  unfold pithref09_Way.F
  have hS : Sat E w (rows cd_pithref09_Step ⟨none, 0⟩ (R.wayL at_ bs 0) :: rows cd_int s (R.bitL bs n) :: M) := hS.nil 175 2
  refine ⟨fun x m i w => ∃ (j : Nat) (t : Sl), x = .slice t.a j t.c ∧ m = .int .i64 (R.node bs j) ∧ i = .int .i64 j ∧ j ≤ n ∧ Sat E w (rows cd_pithref09_Step t (R.wayL at_ bs j) :: rows cd_int s (R.bitL bs n) :: M), fun _ _ i _ => n - (RowKit.intOf i).toNat, ⟨0, _, rfl, rfl, rfl, Nat.zero_le _, hS⟩, ?_⟩
  clear hS
  rintro _ _ _ _ w ⟨j, t, rfl, rfl, rfl, hj, hS⟩
  have hlen := R.wayL_len at_ bs j
  have hlen2 := R.bitL_len bs n
  have hm := R.node_lo hb j
  have h2 : (2 : Int) ^ (j + 1) ≤ 2 ^ 18 := R.two_le (by omega)
  have h3 : (0 : Int) < 2 ^ j := Int.pow_pos (by omega)
  have e2 : (2 : Int) ^ 18 = 262144 := by decide
  have hbj := hb j
  by_cases hlt : j < n
  · have hx := R.bitL_get (bs := bs) hlt
    have hnode : R.node bs (j + 1) = 2 * R.node bs j + bs j := rfl
    repeat' (first | (refine pN_b1 (x := (⟨at_ + R.node bs j, bs j⟩ : T_pithref09_Step)) hS (by rfl) (by decide) ?_; clear hS; intro t2 w hS) | (refine pN_lss_s ?_ ?_ <;> intro hc <;> try (exfalso; omega)) | refine pIf_t ?_ | refine pN_ld1 ha hS ?_ | refine pN_ixk hS _ (by first | rfl | (exact (Int.toNat_of_nonneg (by omega)).symm)) (by first | rfl | omega | simpa only [go_sem] using True.intro | (simp only [go_sem]; omega)) (by assumption) fun a ha hel => ?_ | (refine pN_app hS (by first | rfl | omega | simpa only [go_sem] using True.intro | (simp only [go_sem]; omega)) (by first | rfl | omega | simpa only [go_sem] using True.intro | (simp only [go_sem]; omega)) (by first | omega | (simp only [go_sem]; omega)) ?_; clear hS; intro s w hS) | refine pN_via (by (intro K; simp (disch := omega) only [go_sem, pN_min, pN_max, w_u32, w_u64, Option.isNone_some, Option.isNone_none]; (try simp only [wrap_u32, wrap_u64]); rfl)) ?_ | fail)
    rw [R.wayL_snoc] at hS
    refine ⟨⟨j + 1, _, congrArg (fun k : Nat => Value.slice _ k _) (by simp only [List.length_append, hlen, List.length_cons, List.length_nil]), by rw [hnode], rfl, by omega, hS.to⟩, by simp [RowKit.intOf] <;> omega⟩
  · obtain rfl : j = n := by omega
    repeat' (first | (refine pN_lss_s ?_ ?_ <;> intro hc <;> try (exfalso; omega)) | refine pIf_f ?_ | refine pN_via (by (intro K; simp (disch := omega) only [go_sem, pN_min, pN_max, w_u32, w_u64, Option.isNone_some, Option.isNone_none]; (try simp only [wrap_u32, wrap_u64]); rfl)) ?_ | fail)
    exact hQ _ _ hS

theorem RPut_ok (hS : Sat E w (REnc b s :: RSet p l :: M)) (ho : R.Ok s) (hf : B.Fine l) (hs : s.k + 100 ≤ 140737488355328) (at_ n v : Int) (v1 : v < 9223372036854775808) (back : Bool) (hl : l.length ≤ 1048576)
    (hQ : ∀ w, Sat E w (REnc b (if R.There l.length at_ n ∧ R.Holds v n then R.TS.put ⟨s, l⟩ at_ (R.bitAt back n.toNat v) n.toNat else ⟨s, l⟩).s :: RSet p (if R.There l.length at_ n ∧ R.Holds v n then R.TS.put ⟨s, l⟩ at_ (R.bitAt back n.toNat v) n.toNat else ⟨s, l⟩).l :: M) →
      Q (.int .i64 (if R.There l.length at_ n ∧ R.Holds v n then 0 else 7)) w) :
    Calls Try.prog 99 #[.pointer (some ⟨b, 0, none⟩), .pointer (some ⟨p, 0, none⟩), .int .i64 at_, .int .i64 n, .int .i64 v, .bool back] w (retP Q) := by
  refine pithref09_Put.calls ?_
  unfold pithref09_Put.F
  refine pc_pithref09_refused (refused_ok (hS.fd (RSet p)) hl at_ n v ?_)
  clear hS
  intro w hS
  by_cases hc : R.There l.length at_ n ∧ R.Holds v n
  · simp only [if_pos hc] at hQ
    rw [decide_eq_true hc]
    obtain ⟨⟨n0, n1, a0, a1, a2⟩, v0, v2⟩ := hc
    have ht : R.There l.length at_ n := ⟨n0, n1, a0, a1, a2⟩
    obtain ⟨m, rfl⟩ : ∃ m : Nat, n = m := ⟨n.toNat, by omega⟩
    rw [Int.toNat_natCast] at hQ
    have hb := R.bitAt_01 back m v
    have oa : R.TS.Ok ⟨s, l⟩ := ⟨ho, hf⟩
    repeat' (first | refine pIf_f ?_ | fail)
    refine pc_pithref09_bits (bits_ok hS m (by omega) v v0 v1 back ?_)
    clear hS
    intro bl w hS
    refine pc_pithref09_Way (Way_ok m at_ (R.bitAt back m v) hb hS (by omega) a0 (by omega) ?_)
    clear hS
    intro t w hS
    refine ⟨fun i w => ∃ k : Nat, i = .int .i64 k ∧ k ≤ m ∧ Sat E w (REnc b (R.TS.put ⟨s, l⟩ at_ (R.bitAt back m v) k).s :: RSet p (R.TS.put ⟨s, l⟩ at_ (R.bitAt back m v) k).l :: rows cd_pithref09_Step t (R.wayL at_ (R.bitAt back m v) m) :: M), fun i _ => m - (RowKit.intOf i).toNat, ⟨0, rfl, Nat.zero_le _, by simp only [R.TS.put]; exact hS.to⟩, ?_⟩
    clear hS
    rintro _ _ w ⟨k, rfl, hk, hS⟩
    have hlen := R.wayL_len at_ (R.bitAt back m v) m
    by_cases hlt : k < m
    · have hx := R.wayL_get (at_ := at_) (bs := R.bitAt back m v) hlt
      have ⟨o1, o2⟩ := oa.put ht hb k (by rw [Int.toNat_natCast]; omega)
      have hp := ht.place hb (k := k) (by rw [Int.toNat_natCast]; omega)
      have hpl := R.TS.put_len ⟨s, l⟩ at_ (R.bitAt back m v) k
      have hnx : R.TS.put ⟨s, l⟩ at_ (R.bitAt back m v) (k + 1) = (R.TS.put ⟨s, l⟩ at_ (R.bitAt back m v) k).bit (at_ + R.node (R.bitAt back m v) k) (R.bitAt back m v k) := rfl
      simp only at o2 hpl
      generalize R.TS.put ⟨s, l⟩ at_ (R.bitAt back m v) k = u at o1 o2 hpl hnx hS
      obtain ⟨u, q⟩ := u
      simp only at o2 hpl hS
      have hz : q[(at_ + R.node (R.bitAt back m v) k).toNat]? = some (q.getD (at_ + R.node (R.bitAt back m v) k).toNat 0) := by
        rw [List.getD_eq_getElem?_getD, List.getElem?_eq_getElem (show (at_ + R.node (R.bitAt back m v) k).toNat < q.length by omega)]; rfl
      repeat' (first | (refine pc_pithref07_Encoder_Bit (RBit_in (hS.fd2 (REnc b) (RSet p)) o1.s o1.f (by omega) _ _ hp.1 hz ?_); clear hS; intro w hS) | (refine pN_lss_s ?_ ?_ <;> intro hc <;> try (exfalso; omega)) | refine pIf_t ?_ | refine pL_ld1 ha hS ?_ | refine pA_fa ha (by rfl) fun a ha => ?_ | (refine pDr_go hS ?_; clear hS; intro w hS) | refine ⟨trivial, ?_⟩ | refine pA_ixk hS _ (by first | rfl | (exact (Int.toNat_of_nonneg (by omega)).symm)) (by first | rfl | omega | simpa only [go_sem] using True.intro | (simp only [go_sem]; omega)) (by assumption) fun a ha hel => ?_ | refine pN_via (by (intro K; simp (disch := omega) only [go_sem, pN_min, pN_max, w_u32, w_u64, Option.isNone_some, Option.isNone_none]; (try simp only [wrap_u32, wrap_u64]); rfl)) ?_ | fail)
      refine ⟨⟨k + 1, rfl, by omega, ?_⟩, by simp [RowKit.intOf] <;> omega⟩
      rw [hnx]
      simp only [R.TS.bit]
      dsimp only at hS
      exact hS.to
    · obtain rfl : k = m := by omega
      repeat' (first | (refine pN_lss_s ?_ ?_ <;> intro hc <;> try (exfalso; omega)) | refine pIf_f ?_ | refine pN_via (by (intro K; simp (disch := omega) only [go_sem, pN_min, pN_max, w_u32, w_u64, Option.isNone_some, Option.isNone_none]; (try simp only [wrap_u32, wrap_u64]); rfl)) ?_ | fail)
      exact hQ _ hS.to
  · simp only [if_neg hc] at hQ
    rw [decide_eq_false hc]
    repeat' (first | refine pIf_t ?_ | fail)
    exact hQ _ hS.to

theorem RCostW_ok (hS : Sat E w (RSet p l :: M)) (at_ n v : Int) (v1 : v < 9223372036854775808) (back : Bool) (hl : l.length ≤ 1048576)
    (hQ : ∀ w, Sat E w (RSet p l :: M) → Q (.tuple #[.int .i64 (if R.There l.length at_ n ∧ R.Holds v n then R.costs l at_ (R.bitAt back n.toNat v) n.toNat else 0), .int .i64 (if R.There l.length at_ n ∧ R.Holds v n then 0 else 7)]) w) :
    Calls Try.prog 100 #[.pointer (some ⟨p, 0, none⟩), .int .i64 at_, .int .i64 n, .int .i64 v, .bool back] w (retP Q) := by
  refine pithref09_Cost.calls ?_
  unfold pithref09_Cost.F
  refine pc_pithref09_refused (refused_ok (hS.fd (RSet p)) hl at_ n v ?_)
  clear hS
  intro w hS
  by_cases hc : R.There l.length at_ n ∧ R.Holds v n
  · simp only [if_pos hc] at hQ
    rw [decide_eq_true hc]
    obtain ⟨⟨n0, n1, a0, a1, a2⟩, v0, v2⟩ := hc
    have ht : R.There l.length at_ n := ⟨n0, n1, a0, a1, a2⟩
    obtain ⟨m, rfl⟩ : ∃ m : Nat, n = m := ⟨n.toNat, by omega⟩
    rw [Int.toNat_natCast] at hQ
    have hb := R.bitAt_01 back m v
    repeat' (first | refine pIf_f ?_ | fail)
    refine pc_pithref09_bits (bits_ok hS m (by omega) v v0 v1 back ?_)
    clear hS
    intro bl w hS
    refine pc_pithref09_Way (Way_ok m at_ (R.bitAt back m v) hb hS (by omega) a0 (by omega) ?_)
    clear hS
    intro t w hS
    refine ⟨fun sum i w => ∃ k : Nat, sum = .int .i64 (R.costs l at_ (R.bitAt back m v) k) ∧ i = .int .i64 k ∧ k ≤ m ∧ Sat E w (RSet p l :: rows cd_pithref09_Step t (R.wayL at_ (R.bitAt back m v) m) :: M), fun _ i _ => m - (RowKit.intOf i).toNat, ⟨0, rfl, rfl, Nat.zero_le _, hS.to⟩, ?_⟩
    clear hS
    rintro _ _ _ w ⟨k, rfl, rfl, hk, hS⟩
    have hlen := R.wayL_len at_ (R.bitAt back m v) m
    by_cases hlt : k < m
    · have hx := R.wayL_get (at_ := at_) (bs := R.bitAt back m v) hlt
      have hp := ht.place hb (k := k) (by rw [Int.toNat_natCast]; omega)
      have hsm := R.costs_small l at_ (R.bitAt back m v) k
      have hnx : R.costs l at_ (R.bitAt back m v) (k + 1) = R.costs l at_ (R.bitAt back m v) k + B.cost (l.getD (at_ + R.node (R.bitAt back m v) k).toNat 0) (R.bitAt back m v k) := rfl
      have hcs := B.cost_small (l.getD (at_ + R.node (R.bitAt back m v) k).toNat 0) (R.bitAt back m v k)
      have hin : 0 ≤ at_ + R.node (R.bitAt back m v) k ∧ at_ + R.node (R.bitAt back m v) k < l.length := ⟨hp.1, by omega⟩
      repeat' (first | (refine pc_pithref06_Set_At (RAt_ok (hS.fd (RSet p)) (at_ + R.node (R.bitAt back m v) k) ?_); simp only [if_pos hin]; clear hS; intro w hS) | refine pc_pithref06_Cost (RCost_ok _ _ ?_) | (refine pN_lss_s ?_ ?_ <;> intro hc <;> try (exfalso; omega)) | refine pIf_t ?_ | refine pN_ld1 ha hS ?_ | refine pN_fa ha (by rfl) fun a ha => ?_ | refine pN_ixk hS _ (by first | rfl | (exact (Int.toNat_of_nonneg (by omega)).symm)) (by first | rfl | omega | simpa only [go_sem] using True.intro | (simp only [go_sem]; omega)) (by assumption) fun a ha hel => ?_ | refine pN_via (by (intro K; simp (disch := omega) only [go_sem, pN_min, pN_max, w_u32, w_u64, Option.isNone_some, Option.isNone_none]; (try simp only [wrap_u32, wrap_u64]); rfl)) ?_ | fail)
      refine ⟨⟨k + 1, by rw [hnx], rfl, by omega, hS.to⟩, by simp [RowKit.intOf] <;> omega⟩
    · obtain rfl : k = m := by omega
      repeat' (first | (refine pN_lss_s ?_ ?_ <;> intro hc <;> try (exfalso; omega)) | refine pIf_f ?_ | refine pN_via (by (intro K; simp (disch := omega) only [go_sem, pN_min, pN_max, w_u32, w_u64, Option.isNone_some, Option.isNone_none]; (try simp only [wrap_u32, wrap_u64]); rfl)) ?_ | fail)
      exact hQ _ hS.to
  · simp only [if_neg hc] at hQ
    rw [decide_eq_false hc]
    repeat' (first | refine pIf_t ?_ | fail)
    exact hQ _ hS.to
end

end Go.Proofs.Ytoejaggkedlfmaa
