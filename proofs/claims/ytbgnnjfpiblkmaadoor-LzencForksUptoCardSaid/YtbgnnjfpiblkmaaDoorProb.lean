/-
  Package prob: a row of probabilities.
-/
import Derived.Test.YtbgnnjfpiblkmaaDoorLfProb
import Derived.Test.YtbgnnjfpiblkmaaDoorTypes
namespace Go.Proofs.YtbgnnjfpiblkmaaDoor
open Go
set_option linter.unusedSimpArgs false
set_option linter.unnecessarySimpa false
set_option linter.unusedSectionVars false
set_option linter.unusedVariables false
attribute [local irreducible] oMv oV oU oCall oCallV oBi oBin oUn oLoad oStore oNil oFld oField oIdx oIndex oPick oAlloc oBox oBuild oBs oConv oMk oSl oExt oFn oIface oMap oLook oMapUp oRange oNext oEntry oInv oAssert oPanic oRes pN pA pL pDr pIf gA pGd

/-- A row of probabilities in block b. -/
def PSet (b : Nat) (l : List Int) : HA := fun h => ∃ s : Sl, Sats [cel b ⟨112, [.slice s.a l.length s.c]⟩, rows cd_int s l] h

namespace B
/-- A probability, brought into its bounds. -/
def taken (p : Int) : Int := max 0 (min p 2047)
def next (p bit : Int) : Int := if bit = 0 then taken p + (2048 - taken p) / 32 else taken p - taken p / 32
def bound (rng p : Int) : Int := rng / 2048 * taken p
theorem taken_lo (p : Int) : 0 ≤ taken p := by unfold taken; omega
theorem taken_hi (p : Int) : taken p ≤ 2047 := by unfold taken; omega
theorem taken_self {p : Int} (h : 0 ≤ p) (h2 : p ≤ 2047) : taken p = p := by unfold taken; omega
theorem next_lo {p : Int} (bit : Int) (h1 : 31 ≤ p) (h2 : p ≤ 2017) : 31 ≤ next p bit := by
  unfold next
  rw [taken_self (by omega) (by omega)]
  split <;> omega
theorem next_hi {p : Int} (bit : Int) (h1 : 31 ≤ p) (h2 : p ≤ 2017) : next p bit ≤ 2017 := by
  unfold next
  rw [taken_self (by omega) (by omega)]
  split <;> omega
theorem bound_pos {rng p : Int} (h0 : 16777216 ≤ rng) (h1 : 31 ≤ p) : 0 < bound rng p := by
  unfold bound taken
  have : 1 * 1 ≤ rng / 2048 * max 0 (min p 2047) := Int.mul_le_mul (by omega) (by omega) (by omega) (by omega)
  omega
theorem bound_lo {rng p : Int} (h0 : 0 ≤ rng) : 0 ≤ bound rng p := Int.mul_nonneg (by omega) (taken_lo p)
theorem bound_lt {rng p : Int} (h0 : 16777216 ≤ rng) : bound rng p < rng := by
  unfold bound
  have h1 := taken_hi p
  have h2 := taken_lo p
  have : rng / 2048 * taken p ≤ rng / 2048 * 2047 := Int.mul_le_mul_of_nonneg_left h1 (by omega)
  omega
theorem bound_le {rng p : Int} (h0 : 0 ≤ rng) : bound rng p ≤ rng := by
  unfold bound
  have h1 := taken_hi p
  have h2 := taken_lo p
  have : rng / 2048 * taken p ≤ rng / 2048 * 2047 := Int.mul_le_mul_of_nonneg_left h1 (by omega)
  omega
/-- What bits cost. -/
def halve : Nat → Int → Int → Int × Int
  | 0, w, c => (w, c)
  | f + 1, w, c => if 65536 ≤ w then halve f (w / 2) (c + 1) else (w, c)
def square (x : Int × Int) : Int × Int := halve 20 (x.1 * x.1) (x.2 * 2)
def costing (i : Int) : Int := 161 - (square (square (square (square (16 * i + 8, 0))))).2
def sq : Nat → Int × Int → Int × Int
  | 0, x => x
  | n + 1, x => sq n (square x)
def cost (p bit : Int) : Int := if bit = 0 then costing (taken p / 16) else costing ((2047 - taken p) / 16)
theorem halve_small : ∀ (f : Nat) (w c : Int), w < 65536 * 2 ^ f → 0 ≤ w → (halve f w c).1 < 65536 ∧ 0 ≤ (halve f w c).1
  | 0, w, c, h, h0 => by simp only [halve]; omega
  | f + 1, w, c, h, h0 => by
    unfold halve
    split
    · exact halve_small f (w / 2) (c + 1) (by rw [Int.pow_succ] at h; omega) (by omega)
    · simp only; omega
theorem halve_stop (f : Nat) {w : Int} (c : Int) (h : w < 65536) : halve f w c = (w, c) := by
  cases f with
  | zero => rfl
  | succ f => rw [halve, if_neg (by omega)]
theorem square_small {x : Int × Int} (h : x.1 < 65536) (h0 : 0 ≤ x.1) : (square x).1 < 65536 ∧ 0 ≤ (square x).1 := by
  have h1 : x.1 * x.1 ≤ 65535 * 65535 := Int.mul_le_mul (by omega) (by omega) h0 (by omega)
  exact halve_small 20 _ _ (by have e : (65536 : Int) * 2 ^ 20 = 68719476736 := by decide
                               omega) (Int.mul_nonneg h0 h0)
/-- What is known of the probabilities of a row that only turned. -/
def Fine (l : List Int) : Prop := ∀ p ∈ l, 31 ≤ p ∧ p ≤ 2017
theorem Fine.get {l : List Int} (h : Fine l) {i : Nat} {p : Int} (hp : l[i]? = some p) : 31 ≤ p ∧ p ≤ 2017 := h p (List.mem_of_getElem? hp)
theorem Fine.new (n : Nat) : Fine (List.replicate n 1024) := by
  intro p hp
  rw [List.eq_of_mem_replicate hp]
  omega
theorem Fine.set {l : List Int} (h : Fine l) (i : Nat) {p : Int} (hp : 31 ≤ p ∧ p ≤ 2017) : Fine (l.set i p) := by
  intro q hq
  rcases List.mem_or_eq_of_mem_set hq with hq | rfl
  · exact h q hq
  · exact hp
end B

section
variable {E w : World} {M : List HA} {Q : Value → World → Prop} {b : Nat} {l : List Int}

theorem PSet.opn (hS : Sat E w (PSet b l :: M)) : ∃ s : Sl, Sat E w (cel b ⟨112, [.slice s.a l.length s.c]⟩ :: rows cd_int s l :: M) := by
  obtain ⟨s, hS⟩ := hS.ex
  exact ⟨s, hS.open_ (M := [_, _]) fun _ h => h⟩
theorem PSet.shut {s : Sl} {L N : List HA} {o : Ob} (hS : Sat E w L) [h1 : Fnd (cel b) L o N] [h2 : Fnd (rows cd_int s) N l M] (ho : o = ⟨112, [.slice s.a l.length s.c]⟩) : Sat E w (PSet b l :: M) := by
  subst ho
  exact Sat.shut (M := [_, _]) (hS.fd2 (cel b) (rows cd_int s)) fun _ h => ⟨s, h⟩

theorem Len_ok (hS : Sat E w (PSet b l :: M)) (hQ : ∀ w, Sat E w (PSet b l :: M) → Q (.int .i64 l.length) w) : Calls Tryd.prog 96 #[.pointer (some ⟨b, 0, none⟩)] w (retP Q) := by
  refine prob_Set_Len.calls ?_
  unfold prob_Set_Len.F
  obtain ⟨s, hS⟩ := PSet.opn hS
  repeat' (first | refine pN_l hS (by first | rfl | assumption) ?_ | refine pN_via (by (intro K; simp (disch := omega) only [go_sem, pN_min, pN_max, w_u32, w_u64, Option.isNone_some, Option.isNone_none]; (try simp only [wrap_u32, wrap_u64]); rfl)) ?_ | fail)
  exact hQ _ (PSet.shut (b := b) (s := s) hS rfl)

theorem has_ok (hS : Sat E w (PSet b l :: M)) (i : Int) (hQ : ∀ w, Sat E w (PSet b l :: M) → Q (.int .i64 (if 0 ≤ i ∧ i < l.length then 0 else 7)) w) : Calls Tryd.prog 93 #[.pointer (some ⟨b, 0, none⟩), .int .i64 i] w (retP Q) := by
  refine prob_Set_has.calls ?_
  unfold prob_Set_has.F
  obtain ⟨s, hS⟩ := PSet.opn hS
  repeat' (first | ((first | refine pN_lss_s ?_ ?_ | refine pN_geq_s ?_ ?_) <;> intro hc <;> try (exfalso; omega)) | refine pIf_t ?_ | refine pIf_f ?_ | refine pGd_go (by rfl) ?_ | refine pGd_no (by rfl) ?_ | refine pN_l hS (by first | rfl | assumption) ?_ | refine pN_via (by (intro K; simp (disch := omega) only [go_sem, pN_min, pN_max, w_u32, w_u64, Option.isNone_some, Option.isNone_none]; (try simp only [wrap_u32, wrap_u64]); rfl)) ?_ | fail)
  all_goals (have := hQ _ (PSet.shut (b := b) (s := s) hS rfl); first | (rw [if_neg (by omega)] at this; exact this) | (rw [if_pos (by omega)] at this; exact this))

theorem taken_ok (p : Int) (hQ : Q (.int .i64 (B.taken p)) w) : Calls Tryd.prog 94 #[.int .i64 p] w (retP Q) := by
  refine prob_taken.calls ?_
  unfold prob_taken.F
  repeat' (first | refine pN_via (by (intro K; simp (disch := omega) only [go_sem, pN_min, pN_max, w_u32, w_u64, Option.isNone_some, Option.isNone_none]; (try simp only [wrap_u32, wrap_u64]); rfl)) ?_ | fail)
  exact hQ

theorem Next_ok (p bit : Int) (hQ : Q (.int .i64 (B.next p bit)) w) : Calls Tryd.prog 95 #[.int .i64 p, .int .i64 bit] w (retP Q) := by
  refine prob_Next.calls ?_
  unfold prob_Next.F
  have h1 := B.taken_lo p
  have h2 := B.taken_hi p
  refine pc_prob_taken (taken_ok p ?_)
  repeat' (first | (refine pN_eql_s ?_ ?_ <;> intro hc <;> try (exfalso; first | omega | exact hc rfl | exact hc (by assumption) | exact absurd hc (by assumption))) | refine pIf_t ?_ | refine pIf_f ?_ | refine pN_via (by (intro K; simp (disch := omega) only [go_sem, pN_min, pN_max, w_u32, w_u64, Option.isNone_some, Option.isNone_none]; (try simp only [wrap_u32, wrap_u64]); rfl)) ?_ | fail)
  · rw [B.next, if_pos hc] at hQ; exact hQ
  · rw [B.next, if_neg hc] at hQ; exact hQ

theorem Bound_ok (rng p : Int) (h0 : 0 ≤ rng) (h1 : rng < 4294967296) (hQ : Q (.int .u32 (B.bound rng p)) w) : Calls Tryd.prog 85 #[.int .u32 rng, .int .i64 p] w (retP Q) := by
  refine prob_Bound.calls ?_
  unfold prob_Bound.F
  have h3 := B.taken_lo p
  have h4 := B.taken_hi p
  have h5 := B.bound_lo (rng := rng) (p := p) h0
  have h6 := B.bound_le (rng := rng) (p := p) h0
  unfold B.bound at h5 h6 hQ
  repeat' (first | refine pN_via (by (intro K; simp (disch := omega) only [go_sem, pN_min, pN_max, w_u32, w_u64, Option.isNone_some, Option.isNone_none]; (try simp only [wrap_u32, wrap_u64]); rfl)) ?_ | fail)
  refine pc_prob_taken (taken_ok p ?_)
  repeat' (first | refine pN_via (by (intro K; simp (disch := omega) only [go_sem, pN_min, pN_max, w_u32, w_u64, Option.isNone_some, Option.isNone_none]; (try simp only [wrap_u32, wrap_u64]); rfl)) ?_ | fail)
  exact hQ

theorem costing_ok (i : Int) (h0 : 0 ≤ i) (h1 : i ≤ 2000) (hQ : Q (.int .i64 (B.costing i)) w) : Calls Tryd.prog 105 #[.int .i64 i] w (retP Q) := by
  refine prob_costing.calls ?_
  unfold prob_costing.F
  repeat' (first | refine pN_via (by (intro K; simp (disch := omega) only [go_sem, pN_min, pN_max, w_u32, w_u64, Option.isNone_some, Option.isNone_none]; (try simp only [wrap_u32, wrap_u64]); rfl)) ?_ | fail)
  refine ⟨fun v c k w' => ∃ (x c' : Int) (j : Nat), v = .int .i64 x ∧ c = .int .i64 c' ∧ k = .int .i64 j ∧ j ≤ 4 ∧ x < 65536 ∧ 0 ≤ x ∧ 0 ≤ c' ∧ c' < 32 ^ j ∧ B.sq (4 - j) (x, c') = B.sq 4 (16 * i + 8, 0) ∧ w' = w, fun _ _ k _ => 4 - (RowKit.intOf k).toNat,
    ⟨16 * i + 8, 0, 0, rfl, rfl, rfl, by omega, by omega, by omega, by omega, by decide, rfl, rfl⟩, ?_⟩
  rintro _ _ _ _ w1 ⟨x, c, j, rfl, rfl, rfl, hj, a1, a2, a3, a4, a5, rfl⟩
  have a6 : (32 : Int) ^ j ≤ 1048576 := by
    have : j = 0 ∨ j = 1 ∨ j = 2 ∨ j = 3 ∨ j = 4 := by omega
    rcases this with rfl | rfl | rfl | rfl | rfl <;> decide
  have a7 : 0 ≤ x * x := Int.mul_nonneg a2 a2
  have a8 : x * x ≤ 65535 * 65535 := Int.mul_le_mul (by omega) (by omega) a2 (by omega)
  repeat' (first | (refine pN_lss_s ?_ ?_ <;> intro hc <;> try (exfalso; omega)) | refine pIf_t ?_ | refine pIf_f ?_ | refine pN_via (by (intro K; simp (disch := omega) only [go_sem, pN_min, pN_max, w_u32, w_u64, Option.isNone_some, Option.isNone_none]; (try simp only [wrap_u32, wrap_u64]); rfl)) ?_ | fail)
  · refine ⟨fun v k w' => ∃ (y d : Int) (f : Nat), v = .int .i64 y ∧ k = .int .i64 d ∧ f ≤ 20 ∧ 0 ≤ y ∧ y < 65536 * 2 ^ f ∧ y < 8589934592 ∧ 0 ≤ d ∧ d + f ≤ c * 2 + 20 ∧ B.halve f y d = B.halve 20 (x * x) (c * 2) ∧ w' = w1, fun v _ _ => (RowKit.intOf v).toNat,
      ⟨x * x, c * 2, 20, rfl, rfl, by omega, a7, by have e : (65536 : Int) * 2 ^ 20 = 68719476736 := by decide
                                                    omega, by omega, by omega, by omega, rfl, rfl⟩, ?_⟩
    rintro _ _ _ w2 ⟨y, d, f, rfl, rfl, hf, b1, b2, b3, b4, b5, b6, rfl⟩
    repeat' (first | (refine pN_geq_s ?_ ?_ <;> intro hc <;> try (exfalso; omega)) | refine pIf_t ?_ | refine pIf_f ?_ | refine pN_via (by (intro K; simp (disch := omega) only [go_sem, pN_min, pN_max, w_u32, w_u64, Option.isNone_some, Option.isNone_none]; (try simp only [wrap_u32, wrap_u64]); rfl)) ?_ | fail)
    · obtain ⟨f, rfl⟩ : ∃ g, f = g + 1 := ⟨f - 1, by
        rcases Nat.eq_zero_or_pos f with rfl | h
        · simp at b2; omega
        · omega⟩
      rw [B.halve, if_pos (by omega)] at b6
      rw [Int.pow_succ] at b2
      exact ⟨⟨y / 2, d + 1, f, rfl, rfl, by omega, by omega, by omega, by omega, by omega, by omega, b6, rfl⟩, by simp [RowKit.intOf] <;> omega⟩
    · rw [B.halve_stop f d (by omega)] at b6
      refine ⟨⟨y, d, j + 1, rfl, rfl, rfl, by omega, by omega, b1, b4, ?_, ?_, rfl⟩, by simp [RowKit.intOf] <;> omega⟩
      · rw [Int.pow_succ]; omega
      · rw [← a5, show 4 - j = (4 - (j + 1)) + 1 from by omega, B.sq]
        simp only [B.square]
        rw [← b6]
  · obtain rfl : j = 4 := by omega
    have e : B.costing i = 161 - c := by
      have : B.sq 4 (16 * i + 8, 0) = (x, c) := a5.symm
      have e2 : B.costing i = 161 - (B.sq 4 (16 * i + 8, 0)).2 := rfl
      rw [e2, this]
    rw [← e]
    exact hQ

theorem Cost_ok (p bit : Int) (hQ : Q (.int .i64 (B.cost p bit)) w) : Calls Tryd.prog 102 #[.int .i64 p, .int .i64 bit] w (retP Q) := by
  refine prob_Cost.calls ?_
  unfold prob_Cost.F
  have h1 := B.taken_lo p
  have h2 := B.taken_hi p
  unfold B.cost at hQ
  refine pc_prob_taken (taken_ok p ?_)
  repeat' (first | (refine pN_neq_s ?_ ?_ <;> intro hc <;> try (exfalso; first | omega | exact hc rfl | exact hc (by assumption) | exact absurd hc (by assumption))) | refine pIf_t ?_ | refine pIf_f ?_ | refine pN_via (by (intro K; simp (disch := omega) only [go_sem, pN_min, pN_max, w_u32, w_u64, Option.isNone_some, Option.isNone_none]; (try simp only [wrap_u32, wrap_u64]); rfl)) ?_ | refine ⟨_, ?_, fun _ _ _ h => h⟩ | fail)
  · rw [if_pos (by omega)] at hQ
    refine pc_prob_costing (costing_ok _ (by omega) (by omega) ?_)
    skip
    exact hQ
  · rw [if_neg (by omega)] at hQ
    refine pc_prob_costing (costing_ok _ (by omega) (by omega) ?_)
    skip
    exact hQ

theorem At_ok (hS : Sat E w (PSet b l :: M)) (i : Int) (hQ : ∀ w, Sat E w (PSet b l :: M) → Q (.tuple #[.int .i64 (if 0 ≤ i ∧ i < l.length then l.getD i.toNat 0 else 0), .int .i64 (if 0 ≤ i ∧ i < l.length then 0 else 7)]) w) :
    Calls Tryd.prog 84 #[.pointer (some ⟨b, 0, none⟩), .int .i64 i] w (retP Q) := by
  refine prob_Set_At.calls ?_
  unfold prob_Set_At.F
  refine pc_prob_Set_has (has_ok hS i fun w hS => ?_)
  have := hQ w
  by_cases h : 0 ≤ i ∧ i < l.length
  · simp only [if_pos h] at hQ ⊢
    obtain ⟨s, hS⟩ := PSet.opn hS
    repeat' (first | (refine pN_neq_s ?_ ?_ <;> intro hc <;> try (exfalso; first | omega | exact hc rfl | exact hc (by assumption) | exact absurd hc (by assumption))) | refine pIf_f ?_ | refine pN_l hS (by first | rfl | assumption) ?_ | refine pN_ld1 ha hS ?_ | refine pN_ix hS _ (by first | rfl | (exact (Int.toNat_of_nonneg (by omega)).symm)) (by first | rfl | omega | simpa only [go_sem] using True.intro | (simp only [go_sem]; omega)) (by first | omega | (simp only [go_sem]; omega)) fun a x hx ha hel => ?_ | refine pN_via (by (intro K; simp (disch := omega) only [go_sem, pN_min, pN_max, w_u32, w_u64, Option.isNone_some, Option.isNone_none]; (try simp only [wrap_u32, wrap_u64]); rfl)) ?_ | fail)
    rw [List.getD_eq_getElem?_getD, hx] at hQ
    exact hQ _ (PSet.shut (b := b) (s := s) hS rfl)
  · simp only [if_neg h] at hQ ⊢
    repeat' (first | (refine pN_neq_s ?_ ?_ <;> intro hc <;> try (exfalso; first | omega | exact hc rfl | exact hc (by assumption) | exact absurd hc (by assumption))) | refine pIf_t ?_ | fail)
    exact hQ _ hS

theorem At_in (hS : Sat E w (PSet b l :: M)) (i : Int) {x : Int} (h0 : 0 ≤ i) (hx : l[i.toNat]? = some x) (hQ : ∀ w, Sat E w (PSet b l :: M) → Q (.tuple #[.int .i64 x, .int .i64 0]) w) :
    Calls Tryd.prog 84 #[.pointer (some ⟨b, 0, none⟩), .int .i64 i] w (retP Q) := by
  have hlt : i.toNat < l.length := (List.getElem?_eq_some_iff.1 hx).1
  refine At_ok hS i fun w hS => ?_
  have e : l.getD i.toNat 0 = x := by rw [List.getD_eq_getElem?_getD, hx]; rfl
  rw [if_pos (by omega), if_pos (by omega), e]
  exact hQ w hS
theorem At_no (hS : Sat E w (PSet b l :: M)) (i : Int) (h : ¬ (0 ≤ i ∧ i < l.length)) (hQ : ∀ w, Sat E w (PSet b l :: M) → Q (.tuple #[.int .i64 0, .int .i64 7]) w) :
    Calls Tryd.prog 84 #[.pointer (some ⟨b, 0, none⟩), .int .i64 i] w (retP Q) := by
  refine At_ok hS i fun w hS => ?_
  rw [if_neg h, if_neg h]
  exact hQ w hS

theorem Turn_ok (hS : Sat E w (PSet b l :: M)) (i bit : Int) (hQ : ∀ w, Sat E w (PSet b (if 0 ≤ i ∧ i < l.length then l.set i.toNat (B.next (l.getD i.toNat 0) bit) else l) :: M) → Q (.int .i64 (if 0 ≤ i ∧ i < l.length then 0 else 7)) w) :
    Calls Tryd.prog 87 #[.pointer (some ⟨b, 0, none⟩), .int .i64 i, .int .i64 bit] w (retP Q) := by
  refine prob_Set_Turn.calls ?_
  unfold prob_Set_Turn.F
  refine pc_prob_Set_has (has_ok hS i fun w hS => ?_)
  by_cases h : 0 ≤ i ∧ i < l.length
  · simp only [if_pos h] at hQ ⊢
    obtain ⟨s, hS⟩ := PSet.opn hS
    refine ⟨_, ?_, fun _ _ h => h⟩
    repeat' (first | (refine pN_eql_s ?_ ?_ <;> intro hc <;> try (exfalso; first | omega | exact hc rfl | exact hc (by assumption) | exact absurd hc (by assumption))) | refine pIf_t ?_ | refine pL_l hS (by first | rfl | assumption) ?_ | refine pL_ld1 ha hS ?_ | (refine pDr_go hS ?_; clear hS; intro w hS) | refine pA_ix hS _ (by first | rfl | (exact (Int.toNat_of_nonneg (by omega)).symm)) (by first | rfl | omega | simpa only [go_sem] using True.intro | (simp only [go_sem]; omega)) (by first | omega | (simp only [go_sem]; omega)) fun a x hx ha hel => ?_ | refine pA_via (by (intro K; simp (disch := omega) only [go_sem, pN_min, pN_max, w_u32, w_u64, Option.isNone_some, Option.isNone_none]; (try simp only [wrap_u32, wrap_u64]); rfl)) ?_ | fail)
    refine pc_prob_Next (Next_ok _ bit ?_)
    repeat' (first | refine ⟨trivial, ?_⟩ | refine ⟨⟨(by first | exact run_l hS (by first | rfl | assumption) | exact run_st hS (by first | rfl | omega) | exact run_ld1 ha hS | exact fun _ => run_l hS (by rfl) | exact fun _ => run_st hS (by first | rfl | omega) | exact fun _ => run_ld1 ha hS | exact fun h => Bool.noConfusion h), trivial⟩, ?_⟩ | refine pA_ixk hS _ (by first | rfl | (exact (Int.toNat_of_nonneg (by omega)).symm)) (by first | rfl | omega | simpa only [go_sem] using True.intro | (simp only [go_sem]; omega)) (by assumption) fun a ha hel => ?_ | (refine pN_sr hel hS (by rfl) (by rfl) (by first | omega | (simp only [go_sem]; omega)) ?_; clear hS; intro w hS) | fail)
    have e : l.getD i.toNat 0 = x := by rw [List.getD_eq_getElem?_getD, hx]; rfl
    rw [e] at hQ
    exact hQ _ (PSet.shut (b := b) (s := s) hS (by rw [List.length_set]))
  · simp only [if_neg h] at hQ ⊢
    refine ⟨_, ?_, fun _ _ h => h⟩
    repeat' (first | (refine pN_eql_s ?_ ?_ <;> intro hc <;> try (exfalso; first | omega | exact hc rfl | exact hc (by assumption) | exact absurd hc (by assumption))) | refine pIf_f ?_ | fail)
    exact hQ _ hS

theorem Turn_in (hS : Sat E w (PSet b l :: M)) (i bit : Int) {x : Int} (h0 : 0 ≤ i) (hx : l[i.toNat]? = some x) (hQ : ∀ w, Sat E w (PSet b (l.set i.toNat (B.next x bit)) :: M) → Q (.int .i64 0) w) :
    Calls Tryd.prog 87 #[.pointer (some ⟨b, 0, none⟩), .int .i64 i, .int .i64 bit] w (retP Q) := by
  have hlt : i.toNat < l.length := (List.getElem?_eq_some_iff.1 hx).1
  refine Turn_ok hS i bit fun w hS => ?_
  have e : l.getD i.toNat 0 = x := by rw [List.getD_eq_getElem?_getD, hx]; rfl
  rw [if_pos (by omega), e] at hS
  rw [if_pos (by omega)]
  exact hQ w hS

theorem Reset_ok (hS : Sat E w (PSet b l :: M)) (hQ : ∀ w, Sat E w (PSet b (List.replicate l.length 1024) :: M) → Q (.tuple #[]) w) : Calls Tryd.prog 56 #[.pointer (some ⟨b, 0, none⟩)] w (retP Q) := by
  refine prob_Set_Reset.calls ?_
  unfold prob_Set_Reset.F
  obtain ⟨s, hS⟩ := PSet.opn hS
  have hlen := rows_len (C := cd_int) s hS
  repeat' (first | refine pN_l hS (by first | rfl | assumption) ?_ | refine pN_via (by (intro K; simp (disch := omega) only [go_sem, pN_min, pN_max, w_u32, w_u64, Option.isNone_some, Option.isNone_none]; (try simp only [wrap_u32, wrap_u64]); rfl)) ?_ | fail)
  refine ⟨fun v w => ∃ k : Nat, v = .int .i64 k ∧ k ≤ l.length ∧ Sat E w (cel b ⟨112, [.slice s.a l.length s.c]⟩ :: rows cd_int s (List.replicate k 1024 ++ l.drop k) :: M), fun v _ => l.length - (RowKit.intOf v).toNat, ⟨0, rfl, Nat.zero_le _, hS⟩, ?_⟩
  rintro _ _ w ⟨k, rfl, hk, hS⟩
  have e : (List.replicate k 1024 ++ l.drop k).length = l.length := by simp; omega
  repeat' (first | (refine pN_lss_s ?_ ?_ <;> intro hc <;> try (exfalso; omega)) | refine pIf_t ?_ | refine pIf_f ?_ | refine pN_l hS (by first | rfl | assumption) ?_ | refine pN_ix hS _ (by first | rfl | (exact (Int.toNat_of_nonneg (by omega)).symm)) (by first | rfl | omega | simpa only [go_sem] using True.intro | (simp only [go_sem]; omega)) (by first | omega | (simp only [go_sem]; omega)) fun a x hx ha hel => ?_ | (refine pN_sr hel hS (by rfl) (by rfl) (by first | omega | (simp only [go_sem]; omega)) ?_; clear hS; intro w hS) | refine pN_via (by (intro K; simp (disch := omega) only [go_sem, pN_min, pN_max, w_u32, w_u64, Option.isNone_some, Option.isNone_none]; (try simp only [wrap_u32, wrap_u64]); rfl)) ?_ | fail)
  · refine ⟨⟨k + 1, rfl, by omega, ?_⟩, by simp [RowKit.intOf]; omega⟩
    have e2 : (List.replicate k (1024 : Int) ++ l.drop k).set k 1024 = List.replicate (k + 1) 1024 ++ l.drop (k + 1) := by
      rw [List.set_append_right _ _ (by simp), List.length_replicate, Nat.sub_self, List.replicate_succ', List.append_assoc]
      have : k < l.length := by omega
      rw [List.drop_eq_getElem_cons this]
      rfl
    rw [e2] at hS
    exact hS.to
  · obtain rfl : k = l.length := by omega
    rw [List.drop_length, List.append_nil] at hS
    exact hQ _ (PSet.shut (b := b) (s := s) hS (by rw [List.length_replicate]))

theorem New_ok (hS : Sat E w M) (n : Int) (h0 : 0 ≤ n) (h1 : n ≤ 1048576) (hQ : ∀ b w, Sat E w (PSet b (List.replicate n.toNat 1024) :: M) → Q (.tuple #[.pointer (some ⟨b, 0, none⟩), .int .i64 0]) w) :
    Calls Tryd.prog 43 #[.int .i64 n] w (retP Q) := by
  refine prob_New.calls ?_
  unfold prob_New.F
  repeat' (first | ((first | refine pN_lss_s ?_ ?_ | refine pN_gtr_s ?_ ?_) <;> intro hc <;> try (exfalso; omega)) | refine pIf_f ?_ | refine pGd_go (by rfl) ?_ | (refine pN_bx hS (by rfl) ?_; clear hS; intro a w hS) | (refine pN_mk hS _ (by first | rfl | (exact (Int.toNat_of_nonneg (by omega)).symm)) (by first | omega | (simp only [go_sem]; omega)) ?_; clear hS; intro s w hS) | refine pN_via (by (intro K; simp (disch := omega) only [go_sem, pN_min, pN_max, w_u32, w_u64, Option.isNone_some, Option.isNone_none]; (try simp only [wrap_u32, wrap_u64]); rfl)) ?_ | fail)
  have hS : Sat E w (PSet a (List.replicate n.toNat 0) :: M) := PSet.shut (b := a) (s := s) hS (by rw [List.length_replicate])
  refine pc_prob_Set_Reset (Reset_ok hS fun w hS => ?_)
  rw [List.length_replicate] at hS
  exact hQ _ _ hS
theorem New_no (n : Int) (h : ¬ (0 ≤ n ∧ n ≤ 1048576)) (hQ : Q (.tuple #[.pointer none, .int .i64 7]) w) : Calls Tryd.prog 43 #[.int .i64 n] w (retP Q) := by
  refine prob_New.calls ?_
  unfold prob_New.F
  repeat' (first | ((first | refine pN_lss_s ?_ ?_ | refine pN_gtr_s ?_ ?_) <;> intro hc <;> try (exfalso; omega)) | refine pIf_t ?_ | refine pGd_go (by rfl) ?_ | refine pGd_no (by rfl) ?_ | refine pN_via (by (intro K; simp (disch := omega) only [go_sem, pN_min, pN_max, w_u32, w_u64, Option.isNone_some, Option.isNone_none]; (try simp only [wrap_u32, wrap_u64]); rfl)) ?_ | fail)
  all_goals exact hQ

theorem Fork_ok (hS : Sat E w (PSet b l :: M)) (hl : l.length ≤ 1048576) (hQ : ∀ c w, Sat E w (PSet c l :: PSet b l :: M) → Q (.pointer (some ⟨c, 0, none⟩)) w) : Calls Tryd.prog 41 #[.pointer (some ⟨b, 0, none⟩)] w (retP Q) := by
  refine prob_Set_Fork.calls ?_
  unfold prob_Set_Fork.F
  obtain ⟨s0, hS⟩ := PSet.opn hS
  repeat' (first | refine pN_l hS (by first | rfl | assumption) ?_ | (refine pN_bx hS (by rfl) ?_; clear hS; intro a w hS) | (refine pN_app0 hS (by first | rfl | omega | simpa only [go_sem] using True.intro | (simp only [go_sem]; omega)) (by first | omega | (simp only [go_sem]; omega)) ?_; clear hS; intro s w hS) | refine pN_via (by (intro K; simp (disch := omega) only [go_sem, pN_min, pN_max, w_u32, w_u64, Option.isNone_some, Option.isNone_none]; (try simp only [wrap_u32, wrap_u64]); rfl)) ?_ | fail)
  exact hQ _ _ (PSet.shut (b := a) (s := s) (PSet.shut (b := b) (s := s0) hS rfl) rfl)
end

end Go.Proofs.YtbgnnjfpiblkmaaDoor
