/-
  Texts of one proof, one behind the other: Prob, TPure, LfSymbol, LfState, ZSt, Part, Arr, LfBits, Text, BitsLen, State, LfWindow, ZWin.
-/
import Derived.Test.YtbgnnjfpiblkmaaGreatDoorRows
import Derived.Lib.AppendZerosOnto
import Derived.Lib.BytesEntry
import Derived.Laws.IdiomStrings
import Derived.Test.YtbgnnjfpiblkmaaGreatDoorMg3
namespace Go.Proofs.YtbgnnjfpiblkmaaGreatDoor
open Go
set_option linter.unusedSimpArgs false
set_option linter.unnecessarySimpa false
set_option linter.unusedSectionVars false
set_option linter.unusedVariables false
attribute [local irreducible] oMv oV oU oCall oCallV oBi oBin oUn oLoad oStore oNil oFld oField oIdx oIndex oPick oAlloc oBox oBuild oBs oConv oMk oSl oExt oFn oIface oMap oLook oMapUp oRange oNext oEntry oInv oAssert oPanic oRes pN pA pL pDr pIf gA pGd

def PSet (b : Nat) (l : List Int) : HA := fun h => ∃ s : Sl, Sats [cel b ⟨254, [.slice s.a l.length s.c]⟩, rows cd_int s l] h

namespace B
def taken (p : Int) : Int := max 0 (min p 2047)
def next (p bit : Int) : Int := if bit = 0 then taken p + (2048 - taken p) / 32 else taken p - taken p / 32
def bound (rng p : Int) : Int := rng / 2048 * taken p
theorem taken_lo (p : Int) : 0 ≤ taken p := by unfold taken; omega
theorem taken_hi (p : Int) : taken p ≤ 2047 := by unfold taken; omega
theorem taken_self {p : Int} (h : 0 ≤ p) (h2 : p ≤ 2047) : taken p = p := by unfold taken; omega
theorem next_lo {p : Int} (bit : Int) (h1 : 31 ≤ p) (h2 : p ≤ 2017) : 31 ≤ next p bit := by
  unfold next
  rw [taken_self (by omega) (by omega)]
  split <;> omega
theorem next_hi {p : Int} (bit : Int) (h1 : 31 ≤ p) (h2 : p ≤ 2017) : next p bit ≤ 2017 := by
  unfold next
  rw [taken_self (by omega) (by omega)]
  split <;> omega
theorem bound_pos {rng p : Int} (h0 : 16777216 ≤ rng) (h1 : 31 ≤ p) : 0 < bound rng p := by
  unfold bound taken
  have : 1 * 1 ≤ rng / 2048 * max 0 (min p 2047) := Int.mul_le_mul (by omega) (by omega) (by omega) (by omega)
  omega
theorem bound_lo {rng p : Int} (h0 : 0 ≤ rng) : 0 ≤ bound rng p := Int.mul_nonneg (by omega) (taken_lo p)
theorem bound_lt {rng p : Int} (h0 : 16777216 ≤ rng) : bound rng p < rng := by
  unfold bound
  have h1 := taken_hi p
  have h2 := taken_lo p
  have : rng / 2048 * taken p ≤ rng / 2048 * 2047 := Int.mul_le_mul_of_nonneg_left h1 (by omega)
  omega
theorem bound_le {rng p : Int} (h0 : 0 ≤ rng) : bound rng p ≤ rng := by
  unfold bound
  have h1 := taken_hi p
  have h2 := taken_lo p
  have : rng / 2048 * taken p ≤ rng / 2048 * 2047 := Int.mul_le_mul_of_nonneg_left h1 (by omega)
  omega
def halve : Nat → Int → Int → Int × Int
  | 0, w, c => (w, c)
  | f + 1, w, c => if 65536 ≤ w then halve f (w / 2) (c + 1) else (w, c)
def square (x : Int × Int) : Int × Int := halve 20 (x.1 * x.1) (x.2 * 2)
def costing (i : Int) : Int := 161 - (square (square (square (square (16 * i + 8, 0))))).2
def cost (p bit : Int) : Int := if bit = 0 then costing (taken p / 16) else costing ((2047 - taken p) / 16)
def Fine (l : List Int) : Prop := ∀ p ∈ l, 31 ≤ p ∧ p ≤ 2017
theorem Fine.get {l : List Int} (h : Fine l) {i : Nat} {p : Int} (hp : l[i]? = some p) : 31 ≤ p ∧ p ≤ 2017 := h p (List.mem_of_getElem? hp)
theorem Fine.new (n : Nat) : Fine (List.replicate n 1024) := by
  intro p hp
  rw [List.eq_of_mem_replicate hp]
  omega
theorem Fine.set {l : List Int} (h : Fine l) (i : Nat) {p : Int} (hp : 31 ≤ p ∧ p ≤ 2017) : Fine (l.set i p) := by
  intro q hq
  rcases List.mem_or_eq_of_mem_set hq with hq | rfl
  · exact h q hq
  · exact hp
end B

section
variable {E w : World} {M : List HA} {Q : Value → World → Prop} {b : Nat} {l : List Int}

theorem PSet.opn (hS : Sat E w (PSet b l :: M)) : ∃ s : Sl, Sat E w (cel b ⟨254, [.slice s.a l.length s.c]⟩ :: rows cd_int s l :: M) := by
  obtain ⟨s, hS⟩ := hS.ex
  exact ⟨s, hS.open_ (M := [_, _]) fun _ h => h⟩
theorem PSet.shut {s : Sl} {L N : List HA} {o : Ob} (hS : Sat E w L) [h1 : Fnd (cel b) L o N] [h2 : Fnd (rows cd_int s) N l M] (ho : o = ⟨254, [.slice s.a l.length s.c]⟩) : Sat E w (PSet b l :: M) := by
  subst ho
  exact Sat.shut (M := [_, _]) (hS.fd2 (cel b) (rows cd_int s)) fun _ h => ⟨s, h⟩

theorem Len_ok (hS : Sat E w (PSet b l :: M)) (hQ : ∀ w, Sat E w (PSet b l :: M) → Q (.int .i64 l.length) w) : Calls Tryz.prog 225 #[.pointer (some ⟨b, 0, none⟩)] w (retP Q) := by
  refine prob_Set_Len.calls ?_
  unfold prob_Set_Len.F
  obtain ⟨s, hS⟩ := PSet.opn hS
  repeat' (first | refine pN_l hS (by first | rfl | assumption) ?_ | refine pN_via (by (intro K; simp (disch := omega) only [go_sem, pN_min, pN_max, w_u32, w_u64, Option.isNone_some, Option.isNone_none]; (try simp only [wrap_u32, wrap_u64]); rfl)) ?_ | fail)
  exact hQ _ (PSet.shut (b := b) (s := s) hS rfl)

theorem has_ok (hS : Sat E w (PSet b l :: M)) (i : Int) (hQ : ∀ w, Sat E w (PSet b l :: M) → Q (.int .i64 (if 0 ≤ i ∧ i < l.length then 0 else 7)) w) : Calls Tryz.prog 199 #[.pointer (some ⟨b, 0, none⟩), .int .i64 i] w (retP Q) := by
  refine prob_Set_has.calls ?_
  unfold prob_Set_has.F
  obtain ⟨s, hS⟩ := PSet.opn hS
  repeat' (first | ((first | refine pN_lss_s ?_ ?_ | refine pN_geq_s ?_ ?_) <;> intro hc <;> try (exfalso; omega)) | refine pIf_t ?_ | refine pIf_f ?_ | refine pGd_go (by rfl) ?_ | refine pGd_no (by rfl) ?_ | refine pN_l hS (by first | rfl | assumption) ?_ | refine pN_via (by (intro K; simp (disch := omega) only [go_sem, pN_min, pN_max, w_u32, w_u64, Option.isNone_some, Option.isNone_none]; (try simp only [wrap_u32, wrap_u64]); rfl)) ?_ | fail)
  all_goals (have := hQ _ (PSet.shut (b := b) (s := s) hS rfl); first | (rw [if_neg (by omega)] at this; exact this) | (rw [if_pos (by omega)] at this; exact this))

theorem taken_ok (p : Int) (hQ : Q (.int .i64 (B.taken p)) w) : Calls Tryz.prog 201 #[.int .i64 p] w (retP Q) := by
  refine prob_taken.calls ?_
  unfold prob_taken.F
  repeat' (first | refine pN_via (by (intro K; simp (disch := omega) only [go_sem, pN_min, pN_max, w_u32, w_u64, Option.isNone_some, Option.isNone_none]; (try simp only [wrap_u32, wrap_u64]); rfl)) ?_ | fail)
  exact hQ

theorem Next_ok (p bit : Int) (hQ : Q (.int .i64 (B.next p bit)) w) : Calls Tryz.prog 200 #[.int .i64 p, .int .i64 bit] w (retP Q) := by
  refine prob_Next.calls ?_
  unfold prob_Next.F
  have h1 := B.taken_lo p
  have h2 := B.taken_hi p
  refine pc_prob_taken (taken_ok p ?_)
  repeat' (first | (refine pN_eql_s ?_ ?_ <;> intro hc <;> try (exfalso; first | omega | exact hc rfl | exact hc (by assumption) | exact absurd hc (by assumption))) | refine pIf_t ?_ | refine pIf_f ?_ | refine pN_via (by (intro K; simp (disch := omega) only [go_sem, pN_min, pN_max, w_u32, w_u64, Option.isNone_some, Option.isNone_none]; (try simp only [wrap_u32, wrap_u64]); rfl)) ?_ | fail)
  · rw [B.next, if_pos hc] at hQ; exact hQ
  · rw [B.next, if_neg hc] at hQ; exact hQ

theorem Bound_ok (rng p : Int) (h0 : 0 ≤ rng) (h1 : rng < 4294967296) (hQ : Q (.int .u32 (B.bound rng p)) w) : Calls Tryz.prog 184 #[.int .u32 rng, .int .i64 p] w (retP Q) := by
  refine prob_Bound.calls ?_
  unfold prob_Bound.F
  have h3 := B.taken_lo p
  have h4 := B.taken_hi p
  have h5 := B.bound_lo (rng := rng) (p := p) h0
  have h6 := B.bound_le (rng := rng) (p := p) h0
  unfold B.bound at h5 h6 hQ
  repeat' (first | refine pN_via (by (intro K; simp (disch := omega) only [go_sem, pN_min, pN_max, w_u32, w_u64, Option.isNone_some, Option.isNone_none]; (try simp only [wrap_u32, wrap_u64]); rfl)) ?_ | fail)
  refine pc_prob_taken (taken_ok p ?_)
  repeat' (first | refine pN_via (by (intro K; simp (disch := omega) only [go_sem, pN_min, pN_max, w_u32, w_u64, Option.isNone_some, Option.isNone_none]; (try simp only [wrap_u32, wrap_u64]); rfl)) ?_ | fail)
  exact hQ

theorem At_ok (hS : Sat E w (PSet b l :: M)) (i : Int) (hQ : ∀ w, Sat E w (PSet b l :: M) → Q (.tuple #[.int .i64 (if 0 ≤ i ∧ i < l.length then l.getD i.toNat 0 else 0), .int .i64 (if 0 ≤ i ∧ i < l.length then 0 else 7)]) w) :
    Calls Tryz.prog 179 #[.pointer (some ⟨b, 0, none⟩), .int .i64 i] w (retP Q) := by
  refine prob_Set_At.calls ?_
  unfold prob_Set_At.F
  refine pc_prob_Set_has (has_ok hS i fun w hS => ?_)
  have := hQ w
  by_cases h : 0 ≤ i ∧ i < l.length
  · simp only [if_pos h] at hQ ⊢
    obtain ⟨s, hS⟩ := PSet.opn hS
    repeat' (first | (refine pN_neq_s ?_ ?_ <;> intro hc <;> try (exfalso; first | omega | exact hc rfl | exact hc (by assumption) | exact absurd hc (by assumption))) | refine pIf_f ?_ | refine pN_l hS (by first | rfl | assumption) ?_ | refine pN_ld1 ha hS ?_ | refine pN_ix hS _ (by first | rfl | (exact (Int.toNat_of_nonneg (by omega)).symm)) (by first | rfl | omega | simpa only [go_sem] using True.intro | (simp only [go_sem]; omega)) (by first | omega | (simp only [go_sem]; omega)) fun a x hx ha hel => ?_ | refine pN_via (by (intro K; simp (disch := omega) only [go_sem, pN_min, pN_max, w_u32, w_u64, Option.isNone_some, Option.isNone_none]; (try simp only [wrap_u32, wrap_u64]); rfl)) ?_ | fail)
    rw [List.getD_eq_getElem?_getD, hx] at hQ
    exact hQ _ (PSet.shut (b := b) (s := s) hS rfl)
  · simp only [if_neg h] at hQ ⊢
    repeat' (first | (refine pN_neq_s ?_ ?_ <;> intro hc <;> try (exfalso; first | omega | exact hc rfl | exact hc (by assumption) | exact absurd hc (by assumption))) | refine pIf_t ?_ | fail)
    exact hQ _ hS

theorem At_in (hS : Sat E w (PSet b l :: M)) (i : Int) {x : Int} (h0 : 0 ≤ i) (hx : l[i.toNat]? = some x) (hQ : ∀ w, Sat E w (PSet b l :: M) → Q (.tuple #[.int .i64 x, .int .i64 0]) w) :
    Calls Tryz.prog 179 #[.pointer (some ⟨b, 0, none⟩), .int .i64 i] w (retP Q) := by
  have hlt : i.toNat < l.length := (List.getElem?_eq_some_iff.1 hx).1
  refine At_ok hS i fun w hS => ?_
  have e : l.getD i.toNat 0 = x := by rw [List.getD_eq_getElem?_getD, hx]; rfl
  rw [if_pos (by omega), if_pos (by omega), e]
  exact hQ w hS
theorem At_no (hS : Sat E w (PSet b l :: M)) (i : Int) (h : ¬ (0 ≤ i ∧ i < l.length)) (hQ : ∀ w, Sat E w (PSet b l :: M) → Q (.tuple #[.int .i64 0, .int .i64 7]) w) :
    Calls Tryz.prog 179 #[.pointer (some ⟨b, 0, none⟩), .int .i64 i] w (retP Q) := by
  refine At_ok hS i fun w hS => ?_
  rw [if_neg h, if_neg h]
  exact hQ w hS

theorem Turn_ok (hS : Sat E w (PSet b l :: M)) (i bit : Int) (hQ : ∀ w, Sat E w (PSet b (if 0 ≤ i ∧ i < l.length then l.set i.toNat (B.next (l.getD i.toNat 0) bit) else l) :: M) → Q (.int .i64 (if 0 ≤ i ∧ i < l.length then 0 else 7)) w) :
    Calls Tryz.prog 182 #[.pointer (some ⟨b, 0, none⟩), .int .i64 i, .int .i64 bit] w (retP Q) := by
  refine prob_Set_Turn.calls ?_
  unfold prob_Set_Turn.F
  refine pc_prob_Set_has (has_ok hS i fun w hS => ?_)
  by_cases h : 0 ≤ i ∧ i < l.length
  · simp only [if_pos h] at hQ ⊢
    obtain ⟨s, hS⟩ := PSet.opn hS
    refine ⟨_, ?_, fun _ _ h => h⟩
    repeat' (first | (refine pN_eql_s ?_ ?_ <;> intro hc <;> try (exfalso; first | omega | exact hc rfl | exact hc (by assumption) | exact absurd hc (by assumption))) | refine pIf_t ?_ | refine pL_l hS (by first | rfl | assumption) ?_ | refine pL_ld1 ha hS ?_ | (refine pDr_go hS ?_; clear hS; intro w hS) | refine pA_ix hS _ (by first | rfl | (exact (Int.toNat_of_nonneg (by omega)).symm)) (by first | rfl | omega | simpa only [go_sem] using True.intro | (simp only [go_sem]; omega)) (by first | omega | (simp only [go_sem]; omega)) fun a x hx ha hel => ?_ | refine pA_via (by (intro K; simp (disch := omega) only [go_sem, pN_min, pN_max, w_u32, w_u64, Option.isNone_some, Option.isNone_none]; (try simp only [wrap_u32, wrap_u64]); rfl)) ?_ | fail)
    refine pc_prob_Next (Next_ok _ bit ?_)
    repeat' (first | refine ⟨trivial, ?_⟩ | refine ⟨⟨(by first | exact run_l hS (by first | rfl | assumption) | exact run_st hS (by first | rfl | omega) | exact run_ld1 ha hS | exact fun _ => run_l hS (by rfl) | exact fun _ => run_st hS (by first | rfl | omega) | exact fun _ => run_ld1 ha hS | exact fun h => Bool.noConfusion h), trivial⟩, ?_⟩ | refine pA_ixk hS _ (by first | rfl | (exact (Int.toNat_of_nonneg (by omega)).symm)) (by first | rfl | omega | simpa only [go_sem] using True.intro | (simp only [go_sem]; omega)) (by assumption) fun a ha hel => ?_ | (refine pN_sr hel hS (by rfl) (by rfl) (by first | omega | (simp only [go_sem]; omega)) ?_; clear hS; intro w hS) | fail)
    have e : l.getD i.toNat 0 = x := by rw [List.getD_eq_getElem?_getD, hx]; rfl
    rw [e] at hQ
    exact hQ _ (PSet.shut (b := b) (s := s) hS (by rw [List.length_set]))
  · simp only [if_neg h] at hQ ⊢
    refine ⟨_, ?_, fun _ _ h => h⟩
    repeat' (first | (refine pN_eql_s ?_ ?_ <;> intro hc <;> try (exfalso; first | omega | exact hc rfl | exact hc (by assumption) | exact absurd hc (by assumption))) | refine pIf_f ?_ | fail)
    exact hQ _ hS

theorem Reset_ok (hS : Sat E w (PSet b l :: M)) (hQ : ∀ w, Sat E w (PSet b (List.replicate l.length 1024) :: M) → Q (.tuple #[]) w) : Calls Tryz.prog 174 #[.pointer (some ⟨b, 0, none⟩)] w (retP Q) := by
  refine prob_Set_Reset.calls ?_
  unfold prob_Set_Reset.F
  obtain ⟨s, hS⟩ := PSet.opn hS
  have hlen := rows_len (C := cd_int) s hS
  repeat' (first | refine pN_l hS (by first | rfl | assumption) ?_ | refine pN_via (by (intro K; simp (disch := omega) only [go_sem, pN_min, pN_max, w_u32, w_u64, Option.isNone_some, Option.isNone_none]; (try simp only [wrap_u32, wrap_u64]); rfl)) ?_ | fail)
  refine ⟨fun v w => ∃ k : Nat, v = .int .i64 k ∧ k ≤ l.length ∧ Sat E w (cel b ⟨254, [.slice s.a l.length s.c]⟩ :: rows cd_int s (List.replicate k 1024 ++ l.drop k) :: M), fun v _ => l.length - (RowKit.intOf v).toNat, ⟨0, rfl, Nat.zero_le _, hS⟩, ?_⟩
  rintro _ _ w ⟨k, rfl, hk, hS⟩
  have e : (List.replicate k 1024 ++ l.drop k).length = l.length := by simp; omega
  repeat' (first | (refine pN_lss_s ?_ ?_ <;> intro hc <;> try (exfalso; omega)) | refine pIf_t ?_ | refine pIf_f ?_ | refine pN_l hS (by first | rfl | assumption) ?_ | refine pN_ix hS _ (by first | rfl | (exact (Int.toNat_of_nonneg (by omega)).symm)) (by first | rfl | omega | simpa only [go_sem] using True.intro | (simp only [go_sem]; omega)) (by first | omega | (simp only [go_sem]; omega)) fun a x hx ha hel => ?_ | (refine pN_sr hel hS (by rfl) (by rfl) (by first | omega | (simp only [go_sem]; omega)) ?_; clear hS; intro w hS) | refine pN_via (by (intro K; simp (disch := omega) only [go_sem, pN_min, pN_max, w_u32, w_u64, Option.isNone_some, Option.isNone_none]; (try simp only [wrap_u32, wrap_u64]); rfl)) ?_ | fail)
  · refine ⟨⟨k + 1, rfl, by omega, ?_⟩, by simp [RowKit.intOf]; omega⟩
    have e2 : (List.replicate k (1024 : Int) ++ l.drop k).set k 1024 = List.replicate (k + 1) 1024 ++ l.drop (k + 1) := by
      rw [List.set_append_right _ _ (by simp), List.length_replicate, Nat.sub_self, List.replicate_succ', List.append_assoc]
      have : k < l.length := by omega
      rw [List.drop_eq_getElem_cons this]
      rfl
    rw [e2] at hS
    exact hS.to
  · obtain rfl : k = l.length := by omega
    rw [List.drop_length, List.append_nil] at hS
    exact hQ _ (PSet.shut (b := b) (s := s) hS (by rw [List.length_replicate]))

theorem New_ok (hS : Sat E w M) (n : Int) (h0 : 0 ≤ n) (h1 : n ≤ 1048576) (hQ : ∀ b w, Sat E w (PSet b (List.replicate n.toNat 1024) :: M) → Q (.tuple #[.pointer (some ⟨b, 0, none⟩), .int .i64 0]) w) :
    Calls Tryz.prog 141 #[.int .i64 n] w (retP Q) := by
  refine prob_New.calls ?_
  unfold prob_New.F
  repeat' (first | ((first | refine pN_lss_s ?_ ?_ | refine pN_gtr_s ?_ ?_) <;> intro hc <;> try (exfalso; omega)) | refine pIf_f ?_ | refine pGd_go (by rfl) ?_ | (refine pN_bx hS (by rfl) ?_; clear hS; intro a w hS) | (refine pN_mk hS _ (by first | rfl | (exact (Int.toNat_of_nonneg (by omega)).symm)) (by first | omega | (simp only [go_sem]; omega)) ?_; clear hS; intro s w hS) | refine pN_via (by (intro K; simp (disch := omega) only [go_sem, pN_min, pN_max, w_u32, w_u64, Option.isNone_some, Option.isNone_none]; (try simp only [wrap_u32, wrap_u64]); rfl)) ?_ | fail)
  have hS : Sat E w (PSet a (List.replicate n.toNat 0) :: M) := PSet.shut (b := a) (s := s) hS (by rw [List.length_replicate])
  refine pc_prob_Set_Reset (Reset_ok hS fun w hS => ?_)
  rw [List.length_replicate] at hS
  exact hQ _ _ hS
end

end Go.Proofs.YtbgnnjfpiblkmaaGreatDoor

namespace Go.Proofs.YtbgnnjfpiblkmaaGreatDoor
open Go
set_option linter.unusedSimpArgs false
set_option linter.unnecessarySimpa false
set_option linter.unusedSectionVars false
set_option linter.unusedVariables false
namespace R
theorem two_le {m n : Nat} (h : m ≤ n) : (2 : Int) ^ m ≤ 2 ^ n := by
  have := Nat.pow_le_pow_right (n := 2) (by omega) h
  have e : ∀ k : Nat, (2 : Int) ^ k = ((2 ^ k : Nat) : Int) := fun k => by norm_cast
  rw [e, e]; omega
structure TS where
  s : S
  l : List Int
def bitAt (back : Bool) (n : Nat) (v : Int) (k : Nat) : Int := v / 2 ^ (if back then k else n - 1 - k) % 2
def node (bs : Nat → Int) : Nat → Int
  | 0 => 1
  | k + 1 => 2 * node bs k + bs k
def TS.bit (a : TS) (i bit : Int) : TS := ⟨a.s.cut (B.bound a.s.R (a.l.getD i.toNat 0)) bit, a.l.set i.toNat (B.next (a.l.getD i.toNat 0) bit)⟩
def TS.put (a : TS) (at_ : Int) (bs : Nat → Int) : Nat → TS
  | 0 => a
  | k + 1 => (TS.put a at_ bs k).bit (at_ + node bs k) (bs k)
def costs (l : List Int) (at_ : Int) (bs : Nat → Int) : Nat → Int
  | 0 => 0
  | k + 1 => costs l at_ bs k + B.cost (l.getD (at_ + node bs k).toNat 0) (bs k)
def There (len : Nat) (at_ n : Int) : Prop := 0 ≤ n ∧ n ≤ 16 ∧ 0 ≤ at_ ∧ at_ ≤ len ∧ 2 ^ n.toNat ≤ len - at_
def Holds (v n : Int) : Prop := 0 ≤ v ∧ v < 2 ^ n.toNat
instance (len : Nat) (at_ n : Int) : Decidable (There len at_ n) := by unfold There; infer_instance
instance (v n : Int) : Decidable (Holds v n) := by unfold Holds; infer_instance

theorem bitAt_01 (back : Bool) (n : Nat) (v : Int) (k : Nat) : 0 ≤ bitAt back n v k ∧ bitAt back n v k ≤ 1 := by
  unfold bitAt; omega
theorem node_lo {bs : Nat → Int} (hb : ∀ k, 0 ≤ bs k ∧ bs k ≤ 1) : ∀ k : Nat, (2 : Int) ^ k ≤ node bs k ∧ node bs k < 2 ^ (k + 1)
  | 0 => by simp [node]
  | k + 1 => by
    have ⟨h1, h2⟩ := node_lo hb k
    have := hb k
    simp only [Int.pow_succ, node] at h2 ⊢
    generalize (2 : Int) ^ k = W at *
    omega
structure TS.Ok (a : TS) : Prop where
  s : R.Ok a.s
  f : B.Fine a.l
theorem TS.Ok.bit {a : TS} (h : a.Ok) {i : Int} (h0 : 0 ≤ i) (h1 : i < a.l.length) (bit : Int) : (a.bit i bit).Ok ∧ (a.bit i bit).s.k ≤ a.s.k + 3 := by
  have hx : a.l[i.toNat]? = some (a.l.getD i.toNat 0) := by
    rw [List.getD_eq_getElem?_getD, List.getElem?_eq_getElem (show i.toNat < a.l.length by omega)]; rfl
  have hp := h.f.get hx
  have c1 := B.bound_pos (rng := a.s.R) h.s.r0 hp.1
  have c2 := B.bound_lt (rng := a.s.R) (p := a.l.getD i.toNat 0) h.s.r0
  exact ⟨⟨h.s.cut _ _ c1 c2, h.f.set _ ⟨B.next_lo _ hp.1 hp.2, B.next_hi _ hp.1 hp.2⟩⟩, cut_k h.s _ _ c1 c2⟩
theorem TS.bit_len (a : TS) (i bit : Int) : (a.bit i bit).l.length = a.l.length := by simp [TS.bit]
theorem TS.put_len (a : TS) (at_ : Int) (bs : Nat → Int) : ∀ k, (a.put at_ bs k).l.length = a.l.length
  | 0 => rfl
  | k + 1 => by rw [TS.put, TS.bit_len, TS.put_len a at_ bs k]
theorem There.place {len : Nat} {at_ n : Int} (h : There len at_ n) {bs : Nat → Int} (hb : ∀ k, 0 ≤ bs k ∧ bs k ≤ 1) {k : Nat} (hk : k < n.toNat) : 0 ≤ at_ + node bs k ∧ at_ + node bs k < len ∧ at_ < at_ + node bs k := by
  obtain ⟨h1, h2, h3, h4, h5⟩ := h
  have ⟨i1, i2⟩ := node_lo hb k
  have p : (0 : Int) < 2 ^ k := Int.pow_pos (by omega)
  have : (2 : Int) ^ (k + 1) ≤ 2 ^ n.toNat := two_le (by omega)
  omega
theorem TS.Ok.put {a : TS} (h : a.Ok) {at_ n : Int} (ht : There a.l.length at_ n) {bs : Nat → Int} (hb : ∀ k, 0 ≤ bs k ∧ bs k ≤ 1) : ∀ k : Nat, k ≤ n.toNat → (a.put at_ bs k).Ok ∧ (a.put at_ bs k).s.k ≤ a.s.k + 3 * k
  | 0, _ => ⟨h, Nat.le_refl _⟩
  | k + 1, hk => by
    have ⟨i1, i2⟩ := TS.Ok.put h ht hb k (by omega)
    have hp := ht.place hb (k := k) (by omega)
    have hl := a.put_len at_ bs k
    have ⟨j1, j2⟩ := i1.bit (i := at_ + node bs k) hp.1 (by omega) (bs k)
    exact ⟨j1, by simp only [TS.put]; omega⟩
end R
end Go.Proofs.YtbgnnjfpiblkmaaGreatDoor

namespace Go.Proofs.YtbgnnjfpiblkmaaGreatDoor
open Go
set_option linter.unusedSimpArgs false
set_option linter.unnecessarySimpa false
set_option linter.unusedSectionVars false
set_option linter.unusedVariables false
set_option maxRecDepth 100000

def symbol_Expand.H : Hints := { cut := fun  | _ => none, loop := fun | 7 => ([10, 27], 562949819268208) | _ => ([], 0), order := fun  | _ => [] }
def symbol_Expand.F [Pan] (x0 : Value) (x1 : Value) (w : World) (Q : Value → World → Prop) : Prop :=
 pN Tryz.prog (oCall 42 [x0]) w fun x18 w1 =>
 pN Tryz.prog (oExt x18 0) w1 fun x19 w2 =>
 pN Tryz.prog (oExt x18 1) w2 fun x20 w3 =>
 pN Tryz.prog (oBin .neq 38 (.tmp 21) (.const (.int .i64 0)) x20 (.int .i64 0)) w3 fun x22 w4 =>
 pIf x22
 (Q (.tuple #[(.slice none 0 0), (.int .i64 0), x20]) w4)
 (pN Tryz.prog (oCall 43 []) w4 fun x24 w5 =>
 pN Tryz.prog (oAlloc 100) w5 fun x9 w6 =>
 pN Tryz.prog (oStore 100 x9 x24) w6 fun _ w7 =>
 pN Tryz.prog (oBi .len #[80] 3 [false] [x1]) w7 fun x26 w8 =>
 ∃ (L7 : Value → Value → World → Prop) (m7 : Value → Value → World → Nat),
 L7 (.slice none 0 0) (.int .i64 0) w8 ∧
 ∀ (_k7 : Env) (all10l7 : Value) (v27l7 : Value) (w9 : World), L7 all10l7 v27l7 w9 →
 pN Tryz.prog (oBin .lss 3 (.tmp 27) (.tmp 26) v27l7 x26) w9 fun x28 w10 =>
 pIf x28
 (pN Tryz.prog (oIdx 80 x1 v27l7) w10 fun x30 w11 =>
 pN Tryz.prog (oLoad 48 x30) w11 fun x31 w12 =>
 pN Tryz.prog (oAlloc 48) w12 fun x12 w13 =>
 pN Tryz.prog (oStore 48 x12 x31) w13 fun _ w14 =>
 pN Tryz.prog (oLoad 100 x9) w14 fun x34 w15 =>
 pN Tryz.prog (oLoad 48 x12) w15 fun x35 w16 =>
 pN Tryz.prog (oCall 48 [x19, x34, x35]) w16 fun x36 w17 =>
 pN Tryz.prog (oExt x36 0) w17 fun x37 w18 =>
 pN Tryz.prog (oExt x36 1) w18 fun x38 w19 =>
 pN Tryz.prog (oExt x36 2) w19 fun x39 w20 =>
 pN Tryz.prog (oAlloc 100) w20 fun x14 w21 =>
 pN Tryz.prog (oStore 100 x14 x38) w21 fun _ w22 =>
 pN Tryz.prog (oBin .neq 38 (.tmp 40) (.const (.int .i64 0)) x39 (.int .i64 0)) w22 fun x41 w23 =>
 pIf x41
 (Q (.tuple #[(.slice none 0 0), v27l7, x39]) w23)
 (pN Tryz.prog (oLoad 100 x14) w23 fun x44 w24 =>
 pN Tryz.prog (oStore 100 x9 x44) w24 fun _ w25 =>
 pN Tryz.prog (oBi .append #[30, 30] 30 [false, false] [all10l7, x37]) w25 fun x47 w26 =>
 pN Tryz.prog (oBin .add 3 (.tmp 27) (.const (.int .i64 1)) v27l7 (.int .i64 1)) w26 fun x48 w27 =>
 (L7 x47 x48 w27 ∧ m7 x47 x48 w27 < m7 all10l7 v27l7 w9)))
 (pN Tryz.prog (oBi .len #[80] 3 [false] [x1]) w10 fun x51 w28 =>
 Q (.tuple #[all10l7, x51, (.int .i64 0)]) w28))
noncomputable def symbol_Expand.c : Code := match Tryz.f40.body with | some c => c | none => .skip
theorem symbol_Expand.eq [Pan] (x0 : Value) (x1 : Value) (w : World) (Q : Value → World → Prop) : cw Tryz.prog symbol_Expand.H symbol_Expand.c (endQ Tryz.prog Tryz.f40.results.toList Q) (argsE [x0, x1]) w = symbol_Expand.F x0 x1 w Q := by kernel_rfl
theorem symbol_Expand.calls [Pan] {x0 : Value} {x1 : Value} {w : World} {Q : Value → World → Prop} (h : symbol_Expand.F x0 x1 w Q) : Calls Tryz.prog 40 #[x0, x1] w (retP Q) :=
  calls_of_cw (H := symbol_Expand.H) (c := symbol_Expand.c) (args := [x0, x1]) mixed Tryz.func40 (by kernel_rfl) (by kernel_rfl) (Nat.le_of_ble_eq_true (by kernel_rfl)) ((symbol_Expand.eq x0 x1 w Q).mpr h)

def symbol_Apply.H : Hints := { cut := fun | 15 => some ([10, 11], 590295810358701460480) | _ => none, loop := fun  | _ => ([], 0), order := fun | 12 => [(0, 0), (1, 1), (2, 3), (3, 7), (4, 15), (5, 31), (6, 63), (7, 127), (8, 255), (9, 511), (10, 1023), (11, 2047), (12, 4095), (13, 8191)] | 17 => [(0, 0), (1, 1), (2, 3), (3, 7), (4, 15)] | _ => [] }
def symbol_Apply.F [Pan] (x0 : Value) (x1 : Value) (x2 : Value) (w : World) (Q : Value → World → Prop) : Prop :=
 pN Tryz.prog (oBox 100 x1) w fun x4 w1 =>
 pN Tryz.prog (oBox 48 x2) w1 fun x5 w2 =>
 pN Tryz.prog (oAlloc 100) w2 fun x7 w3 =>
 pN Tryz.prog (oLoad 100 x4) w3 fun x13 w4 =>
 pN Tryz.prog (oLoad 48 x5) w4 fun x14 w5 =>
 pN Tryz.prog (oCall 92 [x13, x14]) w5 fun x15 w6 =>
 pN Tryz.prog (oExt x15 0) w6 fun x16 w7 =>
 pN Tryz.prog (oExt x15 1) w7 fun x17 w8 =>
 pN Tryz.prog (oAlloc 100) w8 fun x9 w9 =>
 pN Tryz.prog (oStore 100 x9 x16) w9 fun _ w10 =>
 pN Tryz.prog (oBin .neq 38 (.tmp 18) (.const (.int .i64 0)) x17 (.int .i64 0)) w10 fun x19 w11 =>
 pIf x19
 (pN Tryz.prog (oBuild 100 []) w11 fun x20 w12 =>
 pN Tryz.prog (oStore 100 x7 x20) w12 fun _ w13 =>
 pL Tryz.prog (oRes 100 x7) w13 fun r7 =>
 Q (.tuple #[(.slice none 0 0), r7, x17]) w13)
 (∃ I15 : Value → Value → World → Prop,
 (pN Tryz.prog (oFld 48 x5 0) w11 fun x22 w14 =>
 pN Tryz.prog (oLoad 3 x22) w14 fun x23 w15 =>
 pN Tryz.prog (oBin .eql 3 (.tmp 23) (.const (.int .i64 1)) x23 (.int .i64 1)) w15 fun x25 w16 =>
 pIf x25
 (pN Tryz.prog (oFld 48 x5 1) w16 fun x26 w17 =>
 pN Tryz.prog (oLoad 5 x26) w17 fun x27 w18 =>
 pN Tryz.prog (oBs 30 1 [(0, x27)]) w18 fun x28 w19 =>
 pN Tryz.prog (oFld 48 x5 1) w19 fun x30 w20 =>
 pN Tryz.prog (oLoad 5 x30) w20 fun x31 w21 =>
 pN Tryz.prog (oBs 30 1 [(0, x31)]) w21 fun x32 w22 =>
 pN Tryz.prog (oCall 46 [x0, x32]) w22 fun _ w23 =>
 I15 x17 x28 w23)
 (pN Tryz.prog (oBin .eql 3 (.tmp 23) (.const (.int .i64 2)) x23 (.int .i64 2)) w16 fun x35 w24 =>
 pIf x35
 (pN Tryz.prog (oFld 48 x5 3) w24 fun x38 w25 =>
 pN Tryz.prog (oLoad 3 x38) w25 fun x39 w26 =>
 pN Tryz.prog (oFld 48 x5 2) w26 fun x40 w27 =>
 pN Tryz.prog (oLoad 3 x40) w27 fun x41 w28 =>
 pN Tryz.prog (oCall 93 [x0, x39, x41]) w28 fun x42 w29 =>
 pN Tryz.prog (oExt x42 0) w29 fun x43 w30 =>
 pN Tryz.prog (oExt x42 1) w30 fun x44 w31 =>
 I15 x44 x43 w31)
 (pN Tryz.prog (oBin .eql 3 (.tmp 23) (.const (.int .i64 3)) x23 (.int .i64 3)) w24 fun x46 w32 =>
 pIf x46
 (pDr w32 fun w33 =>
 pA Tryz.prog (oFld 48 x5 3) fun x49 =>
 pL Tryz.prog (oLoad 3 x49) w33 fun x50 =>
 pA Tryz.prog (oFld 100 x4 1) fun x51 =>
 pA Tryz.prog (oIdx 67 x51 x50) fun x52 =>
 pL Tryz.prog (oLoad 3 x52) w33 fun x53 =>
 pA Tryz.prog (oFld 48 x5 2) fun x54 =>
 pL Tryz.prog (oLoad 3 x54) w33 fun x55 =>
 pN Tryz.prog (oCall 93 [x0, x53, x55]) w33 fun x56 w34 =>
 (True) ∧ (pA Tryz.prog (oExt x56 0) fun x57 =>
 pA Tryz.prog (oExt x56 1) fun x58 =>
 I15 x58 x57 w34))
 (pN Tryz.prog (oBin .eql 3 (.tmp 23) (.const (.int .i64 4)) x23 (.int .i64 4)) w32 fun x60 w35 =>
 pIf x60
 (pN Tryz.prog (oFld 100 x4 1) w35 fun x63 w36 =>
 pN Tryz.prog (oIdx 67 x63 (.int .i64 0)) w36 fun x64 w37 =>
 pN Tryz.prog (oLoad 3 x64) w37 fun x65 w38 =>
 pN Tryz.prog (oCall 93 [x0, x65, (.int .i64 1)]) w38 fun x66 w39 =>
 pN Tryz.prog (oExt x66 0) w39 fun x67 w40 =>
 pN Tryz.prog (oExt x66 1) w40 fun x68 w41 =>
 I15 x68 x67 w41)
 (I15 x17 (.slice none 0 0) w35))))) ∧
 ∀ (_j15 : Env) (e10c15 : Value) (b11c15 : Value) (w42 : World), I15 e10c15 b11c15 w42 →
 pN Tryz.prog (oBin .neq 38 (.tmp 69) (.const (.int .i64 0)) e10c15 (.int .i64 0)) w42 fun x70 w43 =>
 pIf x70
 (pN Tryz.prog (oBuild 100 []) w43 fun x71 w44 =>
 pN Tryz.prog (oStore 100 x7 x71) w44 fun _ w45 =>
 pL Tryz.prog (oRes 100 x7) w45 fun r7 =>
 Q (.tuple #[(.slice none 0 0), r7, e10c15]) w45)
 (pDr w43 fun w46 =>
 pL Tryz.prog (oLoad 100 x9) w46 fun x74 =>
 pN Tryz.prog (oStore 100 x7 x74) w46 fun _ w47 =>
 (True) ∧ (pL Tryz.prog (oRes 100 x7) w47 fun r7 =>
 Q (.tuple #[b11c15, r7, (.int .i64 0)]) w47)))
noncomputable def symbol_Apply.c : Code := match Tryz.f48.body with | some c => c | none => .skip
theorem symbol_Apply.eq [Pan] (x0 : Value) (x1 : Value) (x2 : Value) (w : World) (Q : Value → World → Prop) : cw Tryz.prog symbol_Apply.H symbol_Apply.c (endQ Tryz.prog Tryz.f48.results.toList Q) (argsE [x0, x1, x2]) w = symbol_Apply.F x0 x1 x2 w Q := by kernel_rfl
theorem symbol_Apply.calls [Pan] {x0 : Value} {x1 : Value} {x2 : Value} {w : World} {Q : Value → World → Prop} (h : symbol_Apply.F x0 x1 x2 w Q) : Calls Tryz.prog 48 #[x0, x1, x2] w (retP Q) :=
  calls_of_cw (H := symbol_Apply.H) (c := symbol_Apply.c) (args := [x0, x1, x2]) mixed Tryz.func48 (by kernel_rfl) (by kernel_rfl) (Nat.le_of_ble_eq_true (by kernel_rfl)) ((symbol_Apply.eq x0 x1 x2 w Q).mpr h)

def symbol_Size.H : Hints := { cut := fun  | _ => none, loop := fun  | _ => ([], 0), order := fun  | _ => [] }
def symbol_Size.F [Pan] (x0 : Value) (w : World) (Q : Value → World → Prop) : Prop :=
 pN Tryz.prog (oBox 48 x0) w fun x1 w1 =>
 pDr w1 fun w2 =>
 pL Tryz.prog (oLoad 48 x1) w2 fun x7 =>
 (pN Tryz.prog (oCall 43 []) w2 fun x6 w3 =>
 ((Sem.run Tryz.prog (oLoad 48 x1) w3 = .ok (.value x7) w3) ∧ True) ∧ ((pN Tryz.prog (oCall 92 [x6, x7]) w3 fun x8 w4 =>
 (True) ∧ (pA Tryz.prog (oExt x8 0) fun x9 =>
 pA Tryz.prog (oExt x8 1) fun x10 =>
 pN Tryz.prog (oAlloc 100) w4 fun x3 w5 =>
 (True) ∧ (pN Tryz.prog (oStore 100 x3 x9) w5 fun _ w6 =>
 (True) ∧ (pN Tryz.prog (oBin .neq 38 (.tmp 11) (.const (.int .i64 0)) x10 (.int .i64 0)) w6 fun x12 w7 =>
 pIf x12
 (Q (.int .i64 0) w7)
 (pN Tryz.prog (oFld 48 x1 0) w7 fun x13 w8 =>
 pN Tryz.prog (oLoad 3 x13) w8 fun x14 w9 =>
 pN Tryz.prog (oBin .eql 3 (.tmp 14) (.const (.int .i64 2)) x14 (.int .i64 2)) w9 fun x15 w10 =>
 pGd (gB x15 false) (pN Tryz.prog (oFld 48 x1 0) w10) w10 fun x17 w11 =>
 pGd (gB x15 false) (pN Tryz.prog (oLoad 3 x17) w11) w11 fun x18 w12 =>
 pGd (gB x15 false) (pN Tryz.prog (oBin .eql 3 (.tmp 18) (.const (.int .i64 3)) x18 (.int .i64 3)) w12) w12 fun x19 w13 =>
 pN Tryz.prog (oPick x15 (.bool true) x19) w13 fun x20 w14 =>
 pIf x20
 (pN Tryz.prog (oFld 48 x1 2) w14 fun x21 w15 =>
 pN Tryz.prog (oLoad 3 x21) w15 fun x22 w16 =>
 Q x22 w16)
 (Q (.int .i64 1) w14)))))) ∧ (pN Tryz.prog (oAlloc 100) w3 fun x3 w17 =>
 ((Sem.run Tryz.prog (oLoad 48 x1) w17 = .ok (.value x7) w17) ∧ True) ∧ (pN Tryz.prog (oCall 92 [x6, x7]) w17 fun x8 w18 =>
 (True) ∧ (pA Tryz.prog (oExt x8 0) fun x9 =>
 pA Tryz.prog (oExt x8 1) fun x10 =>
 pN Tryz.prog (oStore 100 x3 x9) w18 fun _ w19 =>
 (True) ∧ (pN Tryz.prog (oBin .neq 38 (.tmp 11) (.const (.int .i64 0)) x10 (.int .i64 0)) w19 fun x12 w20 =>
 pIf x12
 (Q (.int .i64 0) w20)
 (pN Tryz.prog (oFld 48 x1 0) w20 fun x13 w21 =>
 pN Tryz.prog (oLoad 3 x13) w21 fun x14 w22 =>
 pN Tryz.prog (oBin .eql 3 (.tmp 14) (.const (.int .i64 2)) x14 (.int .i64 2)) w22 fun x15 w23 =>
 pGd (gB x15 false) (pN Tryz.prog (oFld 48 x1 0) w23) w23 fun x17 w24 =>
 pGd (gB x15 false) (pN Tryz.prog (oLoad 3 x17) w24) w24 fun x18 w25 =>
 pGd (gB x15 false) (pN Tryz.prog (oBin .eql 3 (.tmp 18) (.const (.int .i64 3)) x18 (.int .i64 3)) w25) w25 fun x19 w26 =>
 pN Tryz.prog (oPick x15 (.bool true) x19) w26 fun x20 w27 =>
 pIf x20
 (pN Tryz.prog (oFld 48 x1 2) w27 fun x21 w28 =>
 pN Tryz.prog (oLoad 3 x21) w28 fun x22 w29 =>
 Q x22 w29)
 (Q (.int .i64 1) w27)))))))) ∧ (pN Tryz.prog (oAlloc 100) w2 fun x3 w30 =>
 ((Sem.run Tryz.prog (oLoad 48 x1) w30 = .ok (.value x7) w30) ∧ True) ∧ (pN Tryz.prog (oCall 43 []) w30 fun x6 w31 =>
 ((Sem.run Tryz.prog (oLoad 48 x1) w31 = .ok (.value x7) w31) ∧ True) ∧ (pN Tryz.prog (oCall 92 [x6, x7]) w31 fun x8 w32 =>
 (True) ∧ (pA Tryz.prog (oExt x8 0) fun x9 =>
 pA Tryz.prog (oExt x8 1) fun x10 =>
 pN Tryz.prog (oStore 100 x3 x9) w32 fun _ w33 =>
 (True) ∧ (pN Tryz.prog (oBin .neq 38 (.tmp 11) (.const (.int .i64 0)) x10 (.int .i64 0)) w33 fun x12 w34 =>
 pIf x12
 (Q (.int .i64 0) w34)
 (pN Tryz.prog (oFld 48 x1 0) w34 fun x13 w35 =>
 pN Tryz.prog (oLoad 3 x13) w35 fun x14 w36 =>
 pN Tryz.prog (oBin .eql 3 (.tmp 14) (.const (.int .i64 2)) x14 (.int .i64 2)) w36 fun x15 w37 =>
 pGd (gB x15 false) (pN Tryz.prog (oFld 48 x1 0) w37) w37 fun x17 w38 =>
 pGd (gB x15 false) (pN Tryz.prog (oLoad 3 x17) w38) w38 fun x18 w39 =>
 pGd (gB x15 false) (pN Tryz.prog (oBin .eql 3 (.tmp 18) (.const (.int .i64 3)) x18 (.int .i64 3)) w39) w39 fun x19 w40 =>
 pN Tryz.prog (oPick x15 (.bool true) x19) w40 fun x20 w41 =>
 pIf x20
 (pN Tryz.prog (oFld 48 x1 2) w41 fun x21 w42 =>
 pN Tryz.prog (oLoad 3 x21) w42 fun x22 w43 =>
 Q x22 w43)
 (Q (.int .i64 1) w41)))))))
noncomputable def symbol_Size.c : Code := match Tryz.f94.body with | some c => c | none => .skip
theorem symbol_Size.eq [Pan] (x0 : Value) (w : World) (Q : Value → World → Prop) : cw Tryz.prog symbol_Size.H symbol_Size.c (endQ Tryz.prog Tryz.f94.results.toList Q) (argsE [x0]) w = symbol_Size.F x0 w Q := by kernel_rfl
theorem symbol_Size.calls [Pan] {x0 : Value} {w : World} {Q : Value → World → Prop} (h : symbol_Size.F x0 w Q) : Calls Tryz.prog 94 #[x0] w (retP Q) :=
  calls_of_cw (H := symbol_Size.H) (c := symbol_Size.c) (args := [x0]) mixed Tryz.func94 (by kernel_rfl) (by kernel_rfl) (Nat.le_of_ble_eq_true (by kernel_rfl)) ((symbol_Size.eq x0 w Q).mpr h)

end Go.Proofs.YtbgnnjfpiblkmaaGreatDoor

namespace Go.Proofs.YtbgnnjfpiblkmaaGreatDoor
open Go
set_option linter.unusedSimpArgs false
set_option linter.unnecessarySimpa false
set_option linter.unusedSectionVars false
set_option linter.unusedVariables false
set_option maxRecDepth 100000

def state_New.H : Hints := { cut := fun  | _ => none, loop := fun  | _ => ([], 0), order := fun  | _ => [] }
def state_New.F [Pan]  (w : World) (Q : Value → World → Prop) : Prop :=
 pN Tryz.prog (oAlloc 100) w fun x0 w1 =>
 pN Tryz.prog (oBuild 67 [(0, (.int .i64 1)), (1, (.int .i64 1)), (2, (.int .i64 1)), (3, (.int .i64 1))]) w1 fun x1 w2 =>
 pN Tryz.prog (oBuild 100 [(1, x1)]) w2 fun x2 w3 =>
 pN Tryz.prog (oStore 100 x0 x2) w3 fun _ w4 =>
 pL Tryz.prog (oRes 100 x0) w4 fun r0 =>
 Q r0 w4
noncomputable def state_New.c : Code := match Tryz.f43.body with | some c => c | none => .skip
theorem state_New.eq [Pan]  (w : World) (Q : Value → World → Prop) : cw Tryz.prog state_New.H state_New.c (endQ Tryz.prog Tryz.f43.results.toList Q) (argsE []) w = state_New.F  w Q := by kernel_rfl
theorem state_New.calls [Pan]  {w : World} {Q : Value → World → Prop} (h : state_New.F  w Q) : Calls Tryz.prog 43 #[] w (retP Q) :=
  calls_of_cw (H := state_New.H) (c := state_New.c) (args := []) mixed Tryz.func43 (by kernel_rfl) (by kernel_rfl) (Nat.le_of_ble_eq_true (by kernel_rfl)) ((state_New.eq  w Q).mpr h)

def state_PropsByte.H : Hints := { cut := fun  | _ => none, loop := fun  | _ => ([], 0), order := fun  | _ => [] }
def state_PropsByte.F [Pan] (x0 : Value) (w : World) (Q : Value → World → Prop) : Prop :=
 pN Tryz.prog (oBox 23 x0) w fun x1 w1 =>
 pN Tryz.prog (oFld 23 x1 0) w1 fun x4 w2 =>
 pN Tryz.prog (oLoad 3 x4) w2 fun x5 w3 =>
 pN Tryz.prog (oBin .lss 3 (.tmp 5) (.const (.int .i64 0)) x5 (.int .i64 0)) w3 fun x6 w4 =>
 pGd (gB x6 false) (pN Tryz.prog (oFld 23 x1 1) w4) w4 fun x8 w5 =>
 pGd (gB x6 false) (pN Tryz.prog (oLoad 3 x8) w5) w5 fun x9 w6 =>
 pGd (gB x6 false) (pN Tryz.prog (oBin .lss 3 (.tmp 9) (.const (.int .i64 0)) x9 (.int .i64 0)) w6) w6 fun x10 w7 =>
 pN Tryz.prog (oPick x6 (.bool true) x10) w7 fun x11 w8 =>
 pGd (gB x11 false) (pN Tryz.prog (oFld 23 x1 2) w8) w8 fun x13 w9 =>
 pGd (gB x11 false) (pN Tryz.prog (oLoad 3 x13) w9) w9 fun x14 w10 =>
 pGd (gB x11 false) (pN Tryz.prog (oBin .lss 3 (.tmp 14) (.const (.int .i64 0)) x14 (.int .i64 0)) w10) w10 fun x15 w11 =>
 pN Tryz.prog (oPick x11 (.bool true) x15) w11 fun x16 w12 =>
 pGd (gB x16 false) (pN Tryz.prog (oFld 23 x1 2) w12) w12 fun x18 w13 =>
 pGd (gB x16 false) (pN Tryz.prog (oLoad 3 x18) w13) w13 fun x19 w14 =>
 pGd (gB x16 false) (pN Tryz.prog (oBin .gtr 3 (.tmp 19) (.const (.int .i64 4)) x19 (.int .i64 4)) w14) w14 fun x20 w15 =>
 pN Tryz.prog (oPick x16 (.bool true) x20) w15 fun x21 w16 =>
 pGd (gB x21 false) (pN Tryz.prog (oFld 23 x1 0) w16) w16 fun x23 w17 =>
 pGd (gB x21 false) (pN Tryz.prog (oLoad 3 x23) w17) w17 fun x24 w18 =>
 pGd (gB x21 false) (pN Tryz.prog (oBin .gtr 3 (.tmp 24) (.const (.int .i64 4)) x24 (.int .i64 4)) w18) w18 fun x25 w19 =>
 pN Tryz.prog (oPick x21 (.bool true) x25) w19 fun x26 w20 =>
 pGd (gB x26 false) (pN Tryz.prog (oFld 23 x1 1) w20) w20 fun x28 w21 =>
 pGd (gB x26 false) (pN Tryz.prog (oLoad 3 x28) w21) w21 fun x29 w22 =>
 pGd (gB x26 false) (pN Tryz.prog (oFld 23 x1 0) w22) w22 fun x30 w23 =>
 pGd (gB x26 false) (pN Tryz.prog (oLoad 3 x30) w23) w23 fun x31 w24 =>
 pGd (gB x26 false) (pN Tryz.prog (oBin .sub 3 (.const (.int .i64 4)) (.tmp 31) (.int .i64 4) x31) w24) w24 fun x32 w25 =>
 pGd (gB x26 false) (pN Tryz.prog (oBin .gtr 3 (.tmp 29) (.tmp 32) x29 x32) w25) w25 fun x33 w26 =>
 pN Tryz.prog (oPick x26 (.bool true) x33) w26 fun x34 w27 =>
 pIf x34
 (Q (.tuple #[(.int .i64 0), (.int .i64 6)]) w27)
 (pN Tryz.prog (oFld 23 x1 2) w27 fun x35 w28 =>
 pN Tryz.prog (oLoad 3 x35) w28 fun x36 w29 =>
 pN Tryz.prog (oBin .mul 3 (.tmp 36) (.const (.int .i64 5)) x36 (.int .i64 5)) w29 fun x37 w30 =>
 pN Tryz.prog (oFld 23 x1 1) w30 fun x38 w31 =>
 pN Tryz.prog (oLoad 3 x38) w31 fun x39 w32 =>
 pN Tryz.prog (oBin .add 3 (.tmp 37) (.tmp 39) x37 x39) w32 fun x40 w33 =>
 pN Tryz.prog (oBin .mul 3 (.tmp 40) (.const (.int .i64 9)) x40 (.int .i64 9)) w33 fun x41 w34 =>
 pN Tryz.prog (oFld 23 x1 0) w34 fun x42 w35 =>
 pN Tryz.prog (oLoad 3 x42) w35 fun x43 w36 =>
 pN Tryz.prog (oBin .add 3 (.tmp 41) (.tmp 43) x41 x43) w36 fun x44 w37 =>
 Q (.tuple #[x44, (.int .i64 0)]) w37)
noncomputable def state_PropsByte.c : Code := match Tryz.f45.body with | some c => c | none => .skip
theorem state_PropsByte.eq [Pan] (x0 : Value) (w : World) (Q : Value → World → Prop) : cw Tryz.prog state_PropsByte.H state_PropsByte.c (endQ Tryz.prog Tryz.f45.results.toList Q) (argsE [x0]) w = state_PropsByte.F x0 w Q := by kernel_rfl
theorem state_PropsByte.calls [Pan] {x0 : Value} {w : World} {Q : Value → World → Prop} (h : state_PropsByte.F x0 w Q) : Calls Tryz.prog 45 #[x0] w (retP Q) :=
  calls_of_cw (H := state_PropsByte.H) (c := state_PropsByte.c) (args := [x0]) mixed Tryz.func45 (by kernel_rfl) (by kernel_rfl) (Nat.le_of_ble_eq_true (by kernel_rfl)) ((state_PropsByte.eq x0 w Q).mpr h)

def state_State_Next.H : Hints := { cut := fun | 21 => some ([], 79228162514264337593543948384) | _ => none, loop := fun  | _ => ([], 0), order := fun | 19 => [(0, 0), (1, 1), (2, 3), (3, 7), (4, 15), (5, 31), (6, 63)] | _ => [] }
def state_State_Next.F [Pan] (x0 : Value) (x1 : Value) (w : World) (Q : Value → World → Prop) : Prop :=
 pN Tryz.prog (oBox 100 x0) w fun x2 w1 =>
 pN Tryz.prog (oBox 48 x1) w1 fun x3 w2 =>
 pN Tryz.prog (oAlloc 100) w2 fun x4 w3 =>
 pN Tryz.prog (oLoad 100 x2) w3 fun x7 w4 =>
 pN Tryz.prog (oCall 135 [x7]) w4 fun x8 w5 =>
 pN Tryz.prog (oUn .not x8) w5 fun x9 w6 =>
 pIf x9
 (pN Tryz.prog (oBuild 100 []) w6 fun x10 w7 =>
 pN Tryz.prog (oStore 100 x4 x10) w7 fun _ w8 =>
 pL Tryz.prog (oRes 100 x4) w8 fun r4 =>
 Q (.tuple #[r4, (.int .i64 7)]) w8)
 (∃ I21 : World → Prop,
 (pN Tryz.prog (oFld 48 x3 0) w6 fun x11 w9 =>
 pN Tryz.prog (oLoad 3 x11) w9 fun x12 w10 =>
 pN Tryz.prog (oBin .eql 3 (.tmp 12) (.const (.int .i64 1)) x12 (.int .i64 1)) w10 fun x15 w11 =>
 pIf x15
 (pN Tryz.prog (oFld 100 x2 0) w11 fun x16 w12 =>
 pN Tryz.prog (oLoad 3 x16) w12 fun x17 w13 =>
 pN Tryz.prog (oIdx 234 (.pointer (some ⟨0, 0, none⟩)) x17) w13 fun x18 w14 =>
 pN Tryz.prog (oLoad 3 x18) w14 fun x19 w15 =>
 pN Tryz.prog (oFld 100 x2 0) w15 fun x20 w16 =>
 pN Tryz.prog (oStore 3 x20 x19) w16 fun _ w17 =>
 I21 w17)
 (pN Tryz.prog (oBin .eql 3 (.tmp 12) (.const (.int .i64 4)) x12 (.int .i64 4)) w11 fun x22 w18 =>
 pIf x22
 (pN Tryz.prog (oFld 100 x2 0) w18 fun x23 w19 =>
 pN Tryz.prog (oLoad 3 x23) w19 fun x24 w20 =>
 pN Tryz.prog (oIdx 234 (.pointer (some ⟨1, 0, none⟩)) x24) w20 fun x25 w21 =>
 pN Tryz.prog (oLoad 3 x25) w21 fun x26 w22 =>
 pN Tryz.prog (oFld 100 x2 0) w22 fun x27 w23 =>
 pN Tryz.prog (oStore 3 x27 x26) w23 fun _ w24 =>
 I21 w24)
 (pN Tryz.prog (oBin .eql 3 (.tmp 12) (.const (.int .i64 2)) x12 (.int .i64 2)) w18 fun x29 w25 =>
 pIf x29
 (pN Tryz.prog (oFld 48 x3 2) w25 fun x30 w26 =>
 pN Tryz.prog (oLoad 3 x30) w26 fun x31 w27 =>
 pN Tryz.prog (oCall 136 [x31]) w27 fun x32 w28 =>
 pN Tryz.prog (oUn .not x32) w28 fun x33 w29 =>
 pGd (gB x33 false) (pN Tryz.prog (oFld 48 x3 3) w29) w29 fun x35 w30 =>
 pGd (gB x33 false) (pN Tryz.prog (oLoad 3 x35) w30) w30 fun x36 w31 =>
 pGd (gB x33 false) (pN Tryz.prog (oCall 137 [x36]) w31) w31 fun x37 w32 =>
 pGd (gB x33 false) (pN Tryz.prog (oUn .not x37) w32) w32 fun x38 w33 =>
 pN Tryz.prog (oPick x33 (.bool true) x38) w33 fun x39 w34 =>
 pIf x39
 (pN Tryz.prog (oBuild 100 []) w34 fun x40 w35 =>
 pN Tryz.prog (oStore 100 x4 x40) w35 fun _ w36 =>
 pL Tryz.prog (oRes 100 x4) w36 fun r4 =>
 Q (.tuple #[r4, (.int .i64 7)]) w36)
 (pN Tryz.prog (oFld 100 x2 0) w34 fun x41 w37 =>
 pN Tryz.prog (oLoad 3 x41) w37 fun x42 w38 =>
 pN Tryz.prog (oIdx 234 (.pointer (some ⟨2, 0, none⟩)) x42) w38 fun x43 w39 =>
 pN Tryz.prog (oLoad 3 x43) w39 fun x44 w40 =>
 pN Tryz.prog (oFld 100 x2 0) w40 fun x45 w41 =>
 pN Tryz.prog (oStore 3 x45 x44) w41 fun _ w42 =>
 pN Tryz.prog (oFld 48 x3 3) w42 fun x46 w43 =>
 pN Tryz.prog (oLoad 3 x46) w43 fun x47 w44 =>
 pN Tryz.prog (oFld 100 x2 1) w44 fun x48 w45 =>
 pN Tryz.prog (oIdx 67 x48 (.int .i64 0)) w45 fun x49 w46 =>
 pN Tryz.prog (oLoad 3 x49) w46 fun x50 w47 =>
 pN Tryz.prog (oFld 100 x2 1) w47 fun x51 w48 =>
 pN Tryz.prog (oIdx 67 x51 (.int .i64 1)) w48 fun x52 w49 =>
 pN Tryz.prog (oLoad 3 x52) w49 fun x53 w50 =>
 pN Tryz.prog (oFld 100 x2 1) w50 fun x54 w51 =>
 pN Tryz.prog (oIdx 67 x54 (.int .i64 2)) w51 fun x55 w52 =>
 pN Tryz.prog (oLoad 3 x55) w52 fun x56 w53 =>
 pN Tryz.prog (oBuild 67 [(0, x47), (1, x50), (2, x53), (3, x56)]) w53 fun x57 w54 =>
 pN Tryz.prog (oFld 100 x2 1) w54 fun x58 w55 =>
 pN Tryz.prog (oStore 67 x58 x57) w55 fun _ w56 =>
 I21 w56))
 (pN Tryz.prog (oBin .eql 3 (.tmp 12) (.const (.int .i64 3)) x12 (.int .i64 3)) w25 fun x60 w57 =>
 pIf x60
 (pN Tryz.prog (oFld 48 x3 2) w57 fun x61 w58 =>
 pN Tryz.prog (oLoad 3 x61) w58 fun x62 w59 =>
 pN Tryz.prog (oCall 136 [x62]) w59 fun x63 w60 =>
 pN Tryz.prog (oUn .not x63) w60 fun x64 w61 =>
 pGd (gB x64 false) (pN Tryz.prog (oFld 48 x3 3) w61) w61 fun x66 w62 =>
 pGd (gB x64 false) (pN Tryz.prog (oLoad 3 x66) w62) w62 fun x67 w63 =>
 pGd (gB x64 false) (pN Tryz.prog (oBin .lss 3 (.tmp 67) (.const (.int .i64 0)) x67 (.int .i64 0)) w63) w63 fun x68 w64 =>
 pN Tryz.prog (oPick x64 (.bool true) x68) w64 fun x69 w65 =>
 pGd (gB x69 false) (pN Tryz.prog (oFld 48 x3 3) w65) w65 fun x71 w66 =>
 pGd (gB x69 false) (pN Tryz.prog (oLoad 3 x71) w66) w66 fun x72 w67 =>
 pGd (gB x69 false) (pN Tryz.prog (oBin .gtr 3 (.tmp 72) (.const (.int .i64 3)) x72 (.int .i64 3)) w67) w67 fun x73 w68 =>
 pN Tryz.prog (oPick x69 (.bool true) x73) w68 fun x74 w69 =>
 pIf x74
 (pN Tryz.prog (oBuild 100 []) w69 fun x75 w70 =>
 pN Tryz.prog (oStore 100 x4 x75) w70 fun _ w71 =>
 pL Tryz.prog (oRes 100 x4) w71 fun r4 =>
 Q (.tuple #[r4, (.int .i64 7)]) w71)
 (pN Tryz.prog (oFld 100 x2 0) w69 fun x76 w72 =>
 pN Tryz.prog (oLoad 3 x76) w72 fun x77 w73 =>
 pN Tryz.prog (oIdx 234 (.pointer (some ⟨3, 0, none⟩)) x77) w73 fun x78 w74 =>
 pN Tryz.prog (oLoad 3 x78) w74 fun x79 w75 =>
 pN Tryz.prog (oFld 100 x2 0) w75 fun x80 w76 =>
 pN Tryz.prog (oStore 3 x80 x79) w76 fun _ w77 =>
 pN Tryz.prog (oFld 48 x3 3) w77 fun x81 w78 =>
 pN Tryz.prog (oLoad 3 x81) w78 fun x82 w79 =>
 pN Tryz.prog (oFld 100 x2 1) w79 fun x83 w80 =>
 pN Tryz.prog (oIdx 67 x83 x82) w80 fun x84 w81 =>
 pN Tryz.prog (oLoad 3 x84) w81 fun x85 w82 =>
 pDr w82 fun w83 =>
 pA Tryz.prog (oFld 100 x2 1) fun x86 =>
 pA Tryz.prog (oSl 67 x86 (some (.int .i64 1)) none none) fun x87 =>
 pA Tryz.prog (oFld 100 x2 1) fun x88 =>
 pA Tryz.prog (oFld 48 x3 3) fun x89 =>
 pL Tryz.prog (oLoad 3 x89) w83 fun x90 =>
 pA Tryz.prog (oSl 67 x88 none (some x90) none) fun x91 =>
 pN Tryz.prog (oBi .copy #[217, 217] 3 [false, false] [x87, x91]) w83 fun _ w84 =>
 (True) ∧ (pN Tryz.prog (oFld 100 x2 1) w84 fun x94 w85 =>
 pN Tryz.prog (oIdx 67 x94 (.int .i64 0)) w85 fun x95 w86 =>
 pN Tryz.prog (oStore 3 x95 x85) w86 fun _ w87 =>
 I21 w87)))
 (pN Tryz.prog (oBuild 100 []) w57 fun x13 w88 =>
 pN Tryz.prog (oStore 100 x4 x13) w88 fun _ w89 =>
 pL Tryz.prog (oRes 100 x4) w89 fun r4 =>
 Q (.tuple #[r4, (.int .i64 6)]) w89))))) ∧
 ∀ (_j21 : Env) (w90 : World), I21 w90 →
 pN Tryz.prog (oLoad 100 x2) w90 fun x96 w91 =>
 pN Tryz.prog (oStore 100 x4 x96) w91 fun _ w92 =>
 pL Tryz.prog (oRes 100 x4) w92 fun r4 =>
 Q (.tuple #[r4, (.int .i64 0)]) w92)
noncomputable def state_State_Next.c : Code := match Tryz.f92.body with | some c => c | none => .skip
theorem state_State_Next.eq [Pan] (x0 : Value) (x1 : Value) (w : World) (Q : Value → World → Prop) : cw Tryz.prog state_State_Next.H state_State_Next.c (endQ Tryz.prog Tryz.f92.results.toList Q) (argsE [x0, x1]) w = state_State_Next.F x0 x1 w Q := by kernel_rfl
theorem state_State_Next.calls [Pan] {x0 : Value} {x1 : Value} {w : World} {Q : Value → World → Prop} (h : state_State_Next.F x0 x1 w Q) : Calls Tryz.prog 92 #[x0, x1] w (retP Q) :=
  calls_of_cw (H := state_State_Next.H) (c := state_State_Next.c) (args := [x0, x1]) mixed Tryz.func92 (by kernel_rfl) (by kernel_rfl) (Nat.le_of_ble_eq_true (by kernel_rfl)) ((state_State_Next.eq x0 x1 w Q).mpr h)

def state_State_right.H : Hints := { cut := fun  | _ => none, loop := fun | 2 => ([7], 16276) | _ => ([], 0), order := fun  | _ => [] }
def state_State_right.F [Pan] (x0 : Value) (w : World) (Q : Value → World → Prop) : Prop :=
 pN Tryz.prog (oBox 100 x0) w fun x1 w1 =>
 pN Tryz.prog (oFld 100 x1 1) w1 fun x5 w2 =>
 pN Tryz.prog (oLoad 67 x5) w2 fun x6 w3 =>
 ∃ (L2 : Value → World → Prop) (m2 : Value → World → Nat),
 L2 (.int .i64 0) w3 ∧
 ∀ (_k2 : Env) (v7l2 : Value) (w4 : World), L2 v7l2 w4 →
 pN Tryz.prog (oBin .lss 3 (.tmp 7) (.const (.int .i64 4)) v7l2 (.int .i64 4)) w4 fun x8 w5 =>
 pIf x8
 (pN Tryz.prog (oIndex 67 x6 v7l2) w5 fun x9 w6 =>
 pN Tryz.prog (oCall 137 [x9]) w6 fun x11 w7 =>
 pN Tryz.prog (oUn .not x11) w7 fun x12 w8 =>
 pIf x12
 (Q (.bool false) w8)
 (pN Tryz.prog (oBin .add 3 (.tmp 7) (.const (.int .i64 1)) v7l2 (.int .i64 1)) w8 fun x13 w9 =>
 (L2 x13 w9 ∧ m2 x13 w9 < m2 v7l2 w4)))
 (pN Tryz.prog (oFld 100 x1 0) w5 fun x14 w10 =>
 pN Tryz.prog (oLoad 3 x14) w10 fun x15 w11 =>
 pN Tryz.prog (oBin .geq 3 (.tmp 15) (.const (.int .i64 0)) x15 (.int .i64 0)) w11 fun x16 w12 =>
 pGd (gB x16 true) (pN Tryz.prog (oFld 100 x1 0) w12) w12 fun x18 w13 =>
 pGd (gB x16 true) (pN Tryz.prog (oLoad 3 x18) w13) w13 fun x19 w14 =>
 pGd (gB x16 true) (pN Tryz.prog (oBin .lss 3 (.tmp 19) (.const (.int .i64 12)) x19 (.int .i64 12)) w14) w14 fun x20 w15 =>
 pN Tryz.prog (oPick x16 x20 (.bool false)) w15 fun x21 w16 =>
 Q x21 w16)
noncomputable def state_State_right.c : Code := match Tryz.f135.body with | some c => c | none => .skip
theorem state_State_right.eq [Pan] (x0 : Value) (w : World) (Q : Value → World → Prop) : cw Tryz.prog state_State_right.H state_State_right.c (endQ Tryz.prog Tryz.f135.results.toList Q) (argsE [x0]) w = state_State_right.F x0 w Q := by kernel_rfl
theorem state_State_right.calls [Pan] {x0 : Value} {w : World} {Q : Value → World → Prop} (h : state_State_right.F x0 w Q) : Calls Tryz.prog 135 #[x0] w (retP Q) :=
  calls_of_cw (H := state_State_right.H) (c := state_State_right.c) (args := [x0]) mixed Tryz.func135 (by kernel_rfl) (by kernel_rfl) (Nat.le_of_ble_eq_true (by kernel_rfl)) ((state_State_right.eq x0 w Q).mpr h)

def state_isLen.H : Hints := { cut := fun  | _ => none, loop := fun  | _ => ([], 0), order := fun  | _ => [] }
def state_isLen.F [Pan] (x0 : Value) (w : World) (Q : Value → World → Prop) : Prop :=
 pN Tryz.prog (oBin .geq 3 (.tmp 3) (.const (.int .i64 2)) x0 (.int .i64 2)) w fun x4 w1 =>
 pGd (gB x4 true) (pN Tryz.prog (oMv x0) w1) w1 fun x6 w2 =>
 pGd (gB x4 true) (pN Tryz.prog (oBin .leq 3 (.tmp 6) (.const (.int .i64 273)) x6 (.int .i64 273)) w2) w2 fun x7 w3 =>
 pN Tryz.prog (oPick x4 x7 (.bool false)) w3 fun x8 w4 =>
 Q x8 w4
noncomputable def state_isLen.c : Code := match Tryz.f136.body with | some c => c | none => .skip
theorem state_isLen.eq [Pan] (x0 : Value) (w : World) (Q : Value → World → Prop) : cw Tryz.prog state_isLen.H state_isLen.c (endQ Tryz.prog Tryz.f136.results.toList Q) (argsE [x0]) w = state_isLen.F x0 w Q := by kernel_rfl
theorem state_isLen.calls [Pan] {x0 : Value} {w : World} {Q : Value → World → Prop} (h : state_isLen.F x0 w Q) : Calls Tryz.prog 136 #[x0] w (retP Q) :=
  calls_of_cw (H := state_isLen.H) (c := state_isLen.c) (args := [x0]) mixed Tryz.func136 (by kernel_rfl) (by kernel_rfl) (Nat.le_of_ble_eq_true (by kernel_rfl)) ((state_isLen.eq x0 w Q).mpr h)

def state_isDist.H : Hints := { cut := fun  | _ => none, loop := fun  | _ => ([], 0), order := fun  | _ => [] }
def state_isDist.F [Pan] (x0 : Value) (w : World) (Q : Value → World → Prop) : Prop :=
 pN Tryz.prog (oBin .geq 3 (.tmp 3) (.const (.int .i64 1)) x0 (.int .i64 1)) w fun x4 w1 =>
 pGd (gB x4 true) (pN Tryz.prog (oMv x0) w1) w1 fun x6 w2 =>
 pGd (gB x4 true) (pN Tryz.prog (oBin .leq 3 (.tmp 6) (.const (.int .i64 4294967295)) x6 (.int .i64 4294967295)) w2) w2 fun x7 w3 =>
 pN Tryz.prog (oPick x4 x7 (.bool false)) w3 fun x8 w4 =>
 Q x8 w4
noncomputable def state_isDist.c : Code := match Tryz.f137.body with | some c => c | none => .skip
theorem state_isDist.eq [Pan] (x0 : Value) (w : World) (Q : Value → World → Prop) : cw Tryz.prog state_isDist.H state_isDist.c (endQ Tryz.prog Tryz.f137.results.toList Q) (argsE [x0]) w = state_isDist.F x0 w Q := by kernel_rfl
theorem state_isDist.calls [Pan] {x0 : Value} {w : World} {Q : Value → World → Prop} (h : state_isDist.F x0 w Q) : Calls Tryz.prog 137 #[x0] w (retP Q) :=
  calls_of_cw (H := state_isDist.H) (c := state_isDist.c) (args := [x0]) mixed Tryz.func137 (by kernel_rfl) (by kernel_rfl) (Nat.le_of_ble_eq_true (by kernel_rfl)) ((state_isDist.eq x0 w Q).mpr h)

def state_State_Literal.H : Hints := { cut := fun  | _ => none, loop := fun  | _ => ([], 0), order := fun  | _ => [] }
def state_State_Literal.F [Pan] (x0 : Value) (w : World) (Q : Value → World → Prop) : Prop :=
 pN Tryz.prog (oBox 100 x0) w fun x1 w1 =>
 pN Tryz.prog (oFld 100 x1 0) w1 fun x3 w2 =>
 pN Tryz.prog (oLoad 3 x3) w2 fun x4 w3 =>
 pN Tryz.prog (oBin .geq 3 (.tmp 4) (.const (.int .i64 0)) x4 (.int .i64 0)) w3 fun x5 w4 =>
 pGd (gB x5 true) (pN Tryz.prog (oFld 100 x1 0) w4) w4 fun x7 w5 =>
 pGd (gB x5 true) (pN Tryz.prog (oLoad 3 x7) w5) w5 fun x8 w6 =>
 pGd (gB x5 true) (pN Tryz.prog (oBin .lss 3 (.tmp 8) (.const (.int .i64 7)) x8 (.int .i64 7)) w6) w6 fun x9 w7 =>
 pN Tryz.prog (oPick x5 x9 (.bool false)) w7 fun x10 w8 =>
 Q x10 w8
noncomputable def state_State_Literal.c : Code := match Tryz.f144.body with | some c => c | none => .skip
theorem state_State_Literal.eq [Pan] (x0 : Value) (w : World) (Q : Value → World → Prop) : cw Tryz.prog state_State_Literal.H state_State_Literal.c (endQ Tryz.prog Tryz.f144.results.toList Q) (argsE [x0]) w = state_State_Literal.F x0 w Q := by kernel_rfl
theorem state_State_Literal.calls [Pan] {x0 : Value} {w : World} {Q : Value → World → Prop} (h : state_State_Literal.F x0 w Q) : Calls Tryz.prog 144 #[x0] w (retP Q) :=
  calls_of_cw (H := state_State_Literal.H) (c := state_State_Literal.c) (args := [x0]) mixed Tryz.func144 (by kernel_rfl) (by kernel_rfl) (Nat.le_of_ble_eq_true (by kernel_rfl)) ((state_State_Literal.eq x0 w Q).mpr h)

def state_Slot.H : Hints := { cut := fun  | _ => none, loop := fun  | _ => ([], 0), order := fun  | _ => [] }
def state_Slot.F [Pan] (x0 : Value) (w : World) (Q : Value → World → Prop) : Prop :=
 pN Tryz.prog (oCall 137 [x0]) w fun x7 w1 =>
 pN Tryz.prog (oUn .not x7) w1 fun x8 w2 =>
 pIf x8
 (Q (.tuple #[(.int .i64 0), (.int .i64 7)]) w2)
 (pN Tryz.prog (oBin .sub 3 (.tmp 9) (.const (.int .i64 1)) x0 (.int .i64 1)) w2 fun x10 w3 =>
 pN Tryz.prog (oConv 3 169 x10) w3 fun x11 w4 =>
 pN Tryz.prog (oBin .lss 169 (.tmp 12) (.const (.int .u64 4)) x11 (.int .u64 4)) w4 fun x13 w5 =>
 pIf x13
 (pN Tryz.prog (oConv 169 3 x11) w5 fun x15 w6 =>
 Q (.tuple #[x15, (.int .i64 0)]) w6)
 (pN Tryz.prog (oCall 175 [x11]) w5 fun x17 w7 =>
 pN Tryz.prog (oBin .sub 3 (.tmp 18) (.const (.int .i64 1)) x17 (.int .i64 1)) w7 fun x19 w8 =>
 pN Tryz.prog (oBin .mul 3 (.const (.int .i64 2)) (.tmp 19) (.int .i64 2) x19) w8 fun x20 w9 =>
 pN Tryz.prog (oBin .sub 3 (.tmp 22) (.const (.int .i64 2)) x17 (.int .i64 2)) w9 fun x23 w10 =>
 pN Tryz.prog (oBin .shr 169 (.tmp 21) (.tmp 23) x11 x23) w10 fun x24 w11 =>
 pN Tryz.prog (oBin .and 169 (.tmp 24) (.const (.int .u64 1)) x24 (.int .u64 1)) w11 fun x25 w12 =>
 pN Tryz.prog (oConv 169 3 x25) w12 fun x26 w13 =>
 pN Tryz.prog (oBin .add 3 (.tmp 20) (.tmp 26) x20 x26) w13 fun x27 w14 =>
 Q (.tuple #[x27, (.int .i64 0)]) w14))
noncomputable def state_Slot.c : Code := match Tryz.f145.body with | some c => c | none => .skip
theorem state_Slot.eq [Pan] (x0 : Value) (w : World) (Q : Value → World → Prop) : cw Tryz.prog state_Slot.H state_Slot.c (endQ Tryz.prog Tryz.f145.results.toList Q) (argsE [x0]) w = state_Slot.F x0 w Q := by kernel_rfl
theorem state_Slot.calls [Pan] {x0 : Value} {w : World} {Q : Value → World → Prop} (h : state_Slot.F x0 w Q) : Calls Tryz.prog 145 #[x0] w (retP Q) :=
  calls_of_cw (H := state_Slot.H) (c := state_Slot.c) (args := [x0]) mixed Tryz.func145 (by kernel_rfl) (by kernel_rfl) (Nat.le_of_ble_eq_true (by kernel_rfl)) ((state_Slot.eq x0 w Q).mpr h)

def state_Range.H : Hints := { cut := fun  | _ => none, loop := fun  | _ => ([], 0), order := fun  | _ => [] }
def state_Range.F [Pan] (x0 : Value) (w : World) (Q : Value → World → Prop) : Prop :=
 pN Tryz.prog (oBin .lss 3 (.tmp 6) (.const (.int .i64 0)) x0 (.int .i64 0)) w fun x7 w1 =>
 pGd (gB x7 false) (pN Tryz.prog (oMv x0) w1) w1 fun x9 w2 =>
 pGd (gB x7 false) (pN Tryz.prog (oBin .gtr 3 (.tmp 9) (.const (.int .i64 63)) x9 (.int .i64 63)) w2) w2 fun x10 w3 =>
 pN Tryz.prog (oPick x7 (.bool true) x10) w3 fun x11 w4 =>
 pIf x11
 (Q (.tuple #[(.int .i64 0), (.int .i64 0), (.int .i64 7)]) w4)
 (pN Tryz.prog (oBin .lss 3 (.tmp 12) (.const (.int .i64 4)) x0 (.int .i64 4)) w4 fun x13 w5 =>
 pIf x13
 (pN Tryz.prog (oBin .add 3 (.tmp 14) (.const (.int .i64 1)) x0 (.int .i64 1)) w5 fun x15 w6 =>
 Q (.tuple #[x15, (.int .i64 0), (.int .i64 0)]) w6)
 (pN Tryz.prog (oBin .quo 3 (.tmp 16) (.const (.int .i64 2)) x0 (.int .i64 2)) w5 fun x17 w7 =>
 pN Tryz.prog (oBin .sub 3 (.tmp 17) (.const (.int .i64 1)) x17 (.int .i64 1)) w7 fun x18 w8 =>
 pN Tryz.prog (oBin .and 3 (.tmp 19) (.const (.int .i64 1)) x0 (.int .i64 1)) w8 fun x20 w9 =>
 pN Tryz.prog (oBin .or 3 (.const (.int .i64 2)) (.tmp 20) (.int .i64 2) x20) w9 fun x21 w10 =>
 pN Tryz.prog (oBin .shl 3 (.tmp 21) (.tmp 22) x21 x18) w10 fun x23 w11 =>
 pN Tryz.prog (oBin .add 3 (.tmp 23) (.const (.int .i64 1)) x23 (.int .i64 1)) w11 fun x24 w12 =>
 Q (.tuple #[x24, x18, (.int .i64 0)]) w12))
noncomputable def state_Range.c : Code := match Tryz.f146.body with | some c => c | none => .skip
theorem state_Range.eq [Pan] (x0 : Value) (w : World) (Q : Value → World → Prop) : cw Tryz.prog state_Range.H state_Range.c (endQ Tryz.prog Tryz.f146.results.toList Q) (argsE [x0]) w = state_Range.F x0 w Q := by kernel_rfl
theorem state_Range.calls [Pan] {x0 : Value} {w : World} {Q : Value → World → Prop} (h : state_Range.F x0 w Q) : Calls Tryz.prog 146 #[x0] w (retP Q) :=
  calls_of_cw (H := state_Range.H) (c := state_Range.c) (args := [x0]) mixed Tryz.func146 (by kernel_rfl) (by kernel_rfl) (Nat.le_of_ble_eq_true (by kernel_rfl)) ((state_Range.eq x0 w Q).mpr h)

end Go.Proofs.YtbgnnjfpiblkmaaGreatDoor

namespace Go.Proofs.YtbgnnjfpiblkmaaGreatDoor
open Go
set_option linter.unusedSimpArgs false
set_option linter.unnecessarySimpa false
set_option linter.unusedSectionVars false
set_option linter.unusedVariables false
namespace Z

abbrev Y := T_api_Symbol
structure St where
  num : Int
  r0 : Int
  r1 : Int
  r2 : Int
  r3 : Int
def St.new : St := ⟨0, 1, 1, 1, 1⟩
def St.cells (s : St) : List Value := [.int .i64 s.num, .int .i64 s.r0, .int .i64 s.r1, .int .i64 s.r2, .int .i64 s.r3]
def St.zero : St := ⟨0, 0, 0, 0, 0⟩
def isDist (d : Int) : Prop := 1 ≤ d ∧ d ≤ 4294967295
instance (d : Int) : Decidable (isDist d) := by unfold isDist; exact inferInstance
def isLen (n : Int) : Prop := 2 ≤ n ∧ n ≤ 273
instance (n : Int) : Decidable (isLen n) := by unfold isLen; exact inferInstance
structure St.Right (s : St) : Prop where
  num : 0 ≤ s.num ∧ s.num < 12
  d0 : isDist s.r0
  d1 : isDist s.r1
  d2 : isDist s.r2
  d3 : isDist s.r3
theorem St.Right.new : St.new.Right := ⟨by decide, by decide, by decide, by decide, by decide⟩
def St.rep (s : St) (i : Int) : Int := if i = 0 then s.r0 else if i = 1 then s.r1 else if i = 2 then s.r2 else s.r3
theorem St.Right.rep {s : St} (h : s.Right) (i : Int) : isDist (s.rep i) := by
  unfold St.rep
  obtain ⟨_, h0, h1, h2, h3⟩ := h
  repeat (split; · assumption)
  assumption
def moved (n kind : Int) : Int := if kind = 1 then (if n < 4 then 0 else if n < 10 then n - 3 else n - 6) else if kind = 2 then (if 7 ≤ n then 10 else 7) else if 7 ≤ n then 11 else if kind = 3 then 8 else 9
theorem moved_bd {n kind : Int} (h : 0 ≤ n ∧ n < 12) : 0 ≤ moved n kind ∧ moved n kind < 12 := by
  unfold moved
  repeat (split; · first | omega | (split <;> omega) | (repeat (split; · omega); omega))
  omega
def errY (y : Y) : Int := if y.Kind = 1 ∨ y.Kind = 4 then 0 else if y.Kind = 2 then (if isLen y.Len ∧ isDist y.Dist then 0 else 7) else if y.Kind = 3 then (if isLen y.Len ∧ 0 ≤ y.Dist ∧ y.Dist ≤ 3 then 0 else 7) else 6
def St.next (s : St) (y : Y) : St :=
  if y.Kind = 2 then ⟨moved s.num 2, y.Dist, s.r0, s.r1, s.r2⟩
  else if y.Kind = 3 then (if y.Dist = 0 then ⟨moved s.num 3, s.r0, s.r1, s.r2, s.r3⟩ else if y.Dist = 1 then ⟨moved s.num 3, s.r1, s.r0, s.r2, s.r3⟩ else if y.Dist = 2 then ⟨moved s.num 3, s.r2, s.r0, s.r1, s.r3⟩ else ⟨moved s.num 3, s.r3, s.r0, s.r1, s.r2⟩)
  else ⟨moved s.num y.Kind, s.r0, s.r1, s.r2, s.r3⟩
theorem St.Right.next {s : St} (h : s.Right) {y : Y} (hy : errY y = 0) : (s.next y).Right := by
  obtain ⟨hn, h0, h1, h2, h3⟩ := h
  unfold St.next
  split
  · rename_i hk
    unfold errY at hy
    rw [if_neg (by omega), if_pos hk] at hy
    have hd : isDist y.Dist := by
      by_cases hd : isLen y.Len ∧ isDist y.Dist
      · exact hd.2
      · rw [if_neg hd] at hy; omega
    exact ⟨moved_bd (kind := 2) hn, hd, h0, h1, h2⟩
  · split
    · repeat' split
      all_goals exact ⟨moved_bd (kind := 3) hn, by assumption, by assumption, by assumption, by assumption⟩
    · exact ⟨moved_bd (kind := y.Kind) hn, h0, h1, h2, h3⟩

def dist (s : St) (y : Y) : Int := if y.Kind = 2 then y.Dist else if y.Kind = 3 then s.rep y.Dist else s.r0
def size (y : Y) : Int := if errY y ≠ 0 then 0 else if y.Kind = 2 ∨ y.Kind = 3 then y.Len else 1

def top : Nat → Nat → Nat
  | 0, _ => 0
  | f + 1, x => if x < 2 then 0 else top f (x / 2) + 1
def slot (d : Int) : Int := if d - 1 < 4 then d - 1 else 2 * (Nat.log2 (d - 1).toNat : Int) + (d - 1) / 2 ^ ((d - 1).toNat.log2 - 1) % 2
def bitsN (s : Int) : Nat := if s < 4 then 0 else (s / 2 - 1).toNat
def least (s : Int) : Int := if s < 4 then s + 1 else (2 + s % 2) * 2 ^ (s / 2 - 1).toNat + 1

structure Pr where
  lc : Int
  lp : Int
  pb : Int
def Pr.Ok (p : Pr) : Prop := 0 ≤ p.lc ∧ 0 ≤ p.lp ∧ 0 ≤ p.pb ∧ p.pb ≤ 4 ∧ p.lc + p.lp ≤ 4
instance (p : Pr) : Decidable p.Ok := by unfold Pr.Ok; exact inferInstance
def Pr.cells (p : Pr) : List Value := [.int .i64 p.lc, .int .i64 p.lp, .int .i64 p.pb]

end Z

structure Glo (W : World) : Prop where
  lit : ∀ i : Nat, i < 12 → W.cell? ⟨0, i, none⟩ = some (.int .i64 (Z.moved i 1))
  mat : ∀ i : Nat, i < 12 → W.cell? ⟨2, i, none⟩ = some (.int .i64 (Z.moved i 2))
  rep : ∀ i : Nat, i < 12 → W.cell? ⟨3, i, none⟩ = some (.int .i64 (Z.moved i 3))
  sht : ∀ i : Nat, i < 12 → W.cell? ⟨1, i, none⟩ = some (.int .i64 (Z.moved i 4))

theorem Glo.up {E w W : World} {L M : List HA} (hS : Sat E w L) [h : Has (old W) L M] {a : Addr} {v : Value} (hc : W.cell? a = some v) : w.cell? a = some v := by
  have h0 : Sat E w (old W :: M) := hS.perm h.perm
  have h1 := h0.old_at 0 rfl
  unfold World.cell? at hc ⊢
  cases hb : W.heap[a.block]? with
  | none => rw [hb] at hc; simp at hc
  | some o =>
    rw [h1 _ _ hb]
    rw [hb] at hc
    exact hc

theorem laid_get {P : Program} {W : World} : ∀ {l : List (String × DataW Unit)} {ps : List MemPlace} {n : String} {d : DataW Unit}, DataW.LaidVars P W l ps → (n, d) ∈ l →
    ∃ g t cs fuel p, P.globalNamed n = some g ∧ (P.globals[g]?).map (·.type) = some t ∧ W.var? P n = some cs ∧ DataW.trod (fun _ => ()) P W 0 (fun _ => true) false fuel t cs.toList = some (d, p)
  | [], _, _, _, _, h => by cases h
  | (n0, d0) :: r, ps, n, d, ⟨g, t, cs, fuel, p, q, h1, h2, h3, h4, h5, _⟩, h => by
    rcases List.mem_cons.1 h with e | h
    · cases e; exact ⟨g, t, cs, fuel, p, h1, h2, h3, h4⟩
    · exact laid_get h5 h

theorem laid_ints {W : World} {l : List (String × DataW Unit)} {ps : List MemPlace} (hl : DataW.LaidVars Tryz.prog W l ps) {n : String} {g t e m : Nat} (zs : List Int) (hm : (n, DataW.agg (zs.map fun z => .lit (.int .i64 z))) ∈ l)
    (hg : Tryz.prog.globalNamed n = some g) (ht : (Tryz.prog.globals[g]?).map (·.type) = some t) (hu : Tryz.prog.underlying t = some (.array m e)) (hc : Tryz.prog.cellsOf e = 1) (he : Tryz.prog.underlying e = some (.int .i64)) (i : Nat) (z : Int) (hi : i < m) (hz : zs[i]? = some z) : W.cell? ⟨g, i, none⟩ = some (.int .i64 z) := by
  obtain ⟨g', t', cs, fuel, p, hg', ht', hv, hd⟩ := laid_get hl hm
  obtain rfl := Option.some.inj (hg.symm.trans hg')
  obtain rfl := Option.some.inj (ht.symm.trans ht')
  obtain ⟨xs, k, _, ex, _, hln, hel⟩ := DataW.trod_array hu hd
  have hE := hel i hi
  have hlt : i < zs.length := (List.getElem?_eq_some_iff.1 hz).1
  have e3 : (xs.map (·.1)) = zs.map fun z => .lit (.int .i64 z) := (DataW.agg.inj (Prod.mk.inj ex).1).symm
  have hxl : xs.length = zs.length := by have := congrArg List.length e3; simpa using this
  rw [hc, Nat.mul_one, List.getElem?_eq_getElem (by omega)] at hE
  obtain ⟨y, e1, e2, _⟩ := DataW.trod_int he hE
  have e4 : (xs.map (·.1))[i]? = (zs.map fun z => (DataW.lit (.int .i64 z) : DataW Unit))[i]? := by rw [e3]
  rw [List.getElem?_map, List.getElem?_map, List.getElem?_eq_getElem (by omega : i < xs.length), hz, e2] at e4
  simp only [Option.map_some, Option.some.injEq, DataW.lit.injEq, Lit.int.injEq, true_and] at e4
  subst e4
  rw [World.var?_cell hg hv i]
  have h0 : ((cs.toList.drop i).take 1)[0]? = some (.int .i64 y) := by rw [e1]; rfl
  have : cs.toList[i]? = some (.int .i64 y) := by simpa using h0
  simpa using this

end Go.Proofs.YtbgnnjfpiblkmaaGreatDoor

namespace Go.Proofs.YtbgnnjfpiblkmaaGreatDoor
open Go
set_option linter.unusedSimpArgs false
set_option linter.unnecessarySimpa false
set_option linter.unusedSectionVars false
set_option linter.unusedVariables false

section
variable [Pan] {P : Program} {E w : World} {K : Value → World → Prop} {J : Value → Prop} {L M : List HA} {v : Value} {t : TypeId} {o : Ob} {b i n : Nat}

theorem run_la_at (hS : Sat E w L) [h : Fnd (cel b) L o M] [Ag P t n] (cs : List Value) (hc : (o.cs.drop i).take n = cs) (hn : n = cs.length) : (oLoad t (.pointer (some ⟨b, i, none⟩))).run P w = .ok (.value (.agg cs.toArray)) w := by
  have hl := cells_of_blk (o := i) (cel_at (b := b) hS) n
  rw [List.toList_toArray, hc] at hl
  exact run_load_agg Ag.ag (by rw [← hn]; exact Ag.sz) hl
theorem pN_la_at (hS : Sat E w L) [h : Fnd (cel b) L o M] [Ag P t n] (cs : List Value) (hc : (o.cs.drop i).take n = cs) (hn : n = cs.length) (hk : K (.agg cs.toArray) w) : pN P (oLoad t (.pointer (some ⟨b, i, none⟩))) w K := by
  rw [pN_def, run_la_at hS cs hc hn, rN_value]; exact hk
theorem pL_la_at (hS : Sat E w L) [h : Fnd (cel b) L o M] [Ag P t n] (cs : List Value) (hc : (o.cs.drop i).take n = cs) (hn : n = cs.length) (hk : J (.agg cs.toArray)) : pL P (oLoad t (.pointer (some ⟨b, i, none⟩))) w J :=
  ⟨_, run_la_at hS cs hc hn, hk⟩
theorem pN_sa_at {us : List Value} (hS : Sat E w L) [h : Fnd (cel b) L o M] [Ag P t n] (hn : n = us.length) (hi : i + us.length ≤ o.cs.length) (h1 : us.all (·.oneCell') = true)
    (hk : ∀ w', Sat E w' (cel b ⟨o.e, o.cs.take i ++ us ++ o.cs.drop (i + us.length)⟩ :: M) → K undef w') : pN P (oStore t (.pointer (some ⟨b, i, none⟩)) (.agg us.toArray)) w K := by
  refine pN_st_part (hS.fd (cel b)) Ag.sz (by simpa using hn) (by simpa using List.all_eq_true.1 h1) (by simpa using hi) fun w' hS' => hk w' ?_
  simpa [cel] using hS'

theorem pDf_fn {fn : Fn} {first cap args : List Value} {K : Deferred → Prop} (hk : K { target := .fn fn cap.toArray, args := first.toArray ++ args.toArray }) : pDf P (oDf (.func fn first.toArray cap.toArray) args) w K := ⟨_, rfl, hk⟩

theorem dE_of {f : FuncId} {cap args : List Value} {u u2 : FrameMode} {K : World → Prop} {Q : Value → World → Prop} (hi : ∀ (args : Array Value) (w : World), (callFunc f args).run P w = .ok (.enter f args) w) (hu : settle u2 = .returning) (hk : ∀ r w, Q r w → K w)
    (h : CallsD P f (args ++ cap).toArray u w fun e u' w' => u' = u2 ∧ ∃ r, e = .returned r ∧ Q r w') : dE P { target := .fn (.func f) cap.toArray, args := #[] ++ args.toArray } u w K := by
  refine ⟨.func f, cap.toArray, f, (args ++ cap).toArray, rfl, ?_, h.mono fun e u' w' he => ?_⟩
  · show (callFunc f _).run P w = _
    rw [hi]
    simp
  · obtain ⟨rfl, r, rfl, hq⟩ := he
    exact ⟨⟨r, rfl⟩, hu, hk _ _ hq⟩
end

theorem pN_panic [Z : Pan] {P : Program} {w : World} {K : Value → World → Prop} {t : TypeId} {v : Value} (hr : (oPanic (.iface t v)).run P w = .halt (.panic (.iface t v)) w) (h : Z.z [{ v := .iface t v, recovered := false }] w) : pN P (oPanic (.iface t v)) w K := by
  rw [pN_def, hr]
  exact h

theorem or_low (n : Nat) (a b : Int) (j : Nat) (ha : 0 ≤ a) (hb : 0 ≤ b) (hb2 : b < 2 ^ j) (h : a * 2 ^ j + b < 2 ^ n) : ((BitVec.ofInt n (a * 2 ^ j) ||| BitVec.ofInt n b).toNat : Int) = a * 2 ^ j + b := by
  obtain ⟨a, rfl⟩ := Int.eq_ofNat_of_zero_le ha
  obtain ⟨b, rfl⟩ := Int.eq_ofNat_of_zero_le hb
  have hb3 : b < 2 ^ j := by exact_mod_cast hb2
  have h2 : a * 2 ^ j + b < 2 ^ n := by exact_mod_cast h
  have e1 : ((a : Int) * 2 ^ j) = ((a * 2 ^ j : Nat) : Int) := by push_cast; rfl
  have e2 : (BitVec.ofInt n ((a * 2 ^ j : Nat) : Int)).toNat = a * 2 ^ j := by
    rw [BitVec.toNat_ofInt]
    norm_cast
    rw [Int.toNat_natCast]
    exact Nat.mod_eq_of_lt (by omega)
  have e3 : (BitVec.ofInt n (b : Int)).toNat = b := by
    rw [BitVec.toNat_ofInt]
    norm_cast
    rw [Int.toNat_natCast]
    exact Nat.mod_eq_of_lt (by omega)
  rw [e1, BitVec.toNat_or, e2, e3, Nat.mul_comm a, ← Nat.two_pow_add_eq_or_of_lt hb3]
  push_cast
  rfl

end Go.Proofs.YtbgnnjfpiblkmaaGreatDoor

namespace Go.Proofs.YtbgnnjfpiblkmaaGreatDoor
open Go
set_option linter.unusedSimpArgs false
set_option linter.unnecessarySimpa false
set_option linter.unusedSectionVars false
set_option linter.unusedVariables false

section
variable [Pan] {P : Program} {E w : World} {K : Value → World → Prop} {J : Value → Prop} {L M : List HA} {v : Value} {t e : TypeId} {o : Ob} {b i j n : Nat} {k : IntKind} {x : Int}

class Ar (P : Program) (t : TypeId) (n : outParam Nat) : Prop where
  ex : ∃ e, P.underlying t = some (.array n e) ∧ (∀ w, (sizeOf e).run P w = .ok 1 w) ∧ ∀ w, (isAgg e).run P w = .ok false w

theorem run_aix [h : Ar P t n] {cs : List Value} (j : Nat) (hx : x = (j : Int)) (hj : j < n) (hv : cs[j]? = some v) (w : World) : (oIndex t (.agg cs.toArray) (.int k x)).run P w = .ok (.value v) w := by
  obtain ⟨e, ht, hs, ha⟩ := h.ex
  subst hx
  refine run_oV_ok ?_
  have h1 : (j : Int) < n := by omega
  simp [Instr.index, run_underlying ht, asIntOf, hs, hj, part, ha, hv]
theorem pN_aix [h : Ar P t n] {cs : List Value} (j : Nat) (hx : x = (j : Int)) (hj : j < n) (hv : cs[j]? = some v) (hk : K v w) : pN P (oIndex t (.agg cs.toArray) (.int k x)) w K := by
  rw [pN_def, run_aix j hx hj hv, rN_value]; exact hk

theorem run_aslo [h : Ar P t n] (lo : Nat) (hx : x = (lo : Int)) (hl : lo < n) (w : World) :
    (oSl t (.pointer (some ⟨b, i, none⟩)) (some (.int k x)) none none).run P w = .ok (.value (.slice (some ⟨b, i + lo, none⟩) (n - lo) (n - lo))) w := by
  obtain ⟨e, ht, hs, _⟩ := h.ex
  subst hx
  refine run_oV_ok ?_
  have h1 : (0 : Int) ≤ lo ∧ (lo : Int) ≤ n := by omega
  have h2 : ¬ n = lo := by omega
  have h3 : lo ≤ n := by omega
  simp [Instr.sliceAt, run_underlying ht, Instr.sureAddr, Instr.sliceBounds, Instr.sliceBound, asIntOf, h3, hs, h2, Addr.add_lit]
theorem run_ashi [h : Ar P t n] (hi : Nat) (hx : x = (hi : Int)) (hl : hi ≤ n) (h0 : 0 < n) (w : World) :
    (oSl t (.pointer (some ⟨b, i, none⟩)) none (some (.int k x)) none).run P w = .ok (.value (.slice (some ⟨b, i, none⟩) hi n)) w := by
  obtain ⟨e, ht, hs, _⟩ := h.ex
  subst hx
  refine run_oV_ok ?_
  have h2 : ¬ n = 0 := by omega
  simp [Instr.sliceAt, run_underlying ht, Instr.sureAddr, Instr.sliceBounds, Instr.sliceBound, asIntOf, hl, hs, h2, Addr.add_lit]
theorem pA_aslo [h : Ar P t n] (lo : Nat) (hx : x = (lo : Int)) (hl : lo < n) (hk : J (.slice (some ⟨b, i + lo, none⟩) (n - lo) (n - lo))) : pA P (oSl t (.pointer (some ⟨b, i, none⟩)) (some (.int k x)) none none) J :=
  ⟨_, run_aslo lo hx hl, hk⟩
theorem pA_ashi [h : Ar P t n] (hi : Nat) (hx : x = (hi : Int)) (hl : hi ≤ n) (h0 : 0 < n) (hk : J (.slice (some ⟨b, i, none⟩) hi n)) : pA P (oSl t (.pointer (some ⟨b, i, none⟩)) none (some (.int k x)) none) J :=
  ⟨_, run_ashi hi hx hl h0, hk⟩

theorem pN_cpc {dn dc sn sc : Nat} {ty sT : TypeId} {cs : List Bool} (hS : Sat E w L) [h : Fnd (cel b) L o M] {z : Value} {bytes : Nat} (ht : SlT P t e z 1 bytes) (us : List Value) (hus : (o.cs.drop j).take (min sn dn) = us) (hl : us.length = min sn dn) (h1 : us.all (·.oneCell') = true) (hi : i + us.length ≤ o.cs.length)
    (hk : ∀ w', Sat E w' (cel b ⟨o.e, o.cs.take i ++ us ++ o.cs.drop (i + us.length)⟩ :: M) → K (.int .i64 (min sn dn : Nat)) w') : pN P (oBi .copy #[t, sT] ty cs [.slice (some ⟨b, i, none⟩) dn dc, .slice (some ⟨b, j, none⟩) sn sc]) w K := by
  obtain ⟨i', hi', hz, hs, hby⟩ := ht.info
  have hS1 := hS.fd (cel b)
  have hb := cel_at (b := b) hS
  have hc := cells_of_blk (o := j) hb us.length
  rw [List.toList_toArray] at hc
  have hld := run_loadCells_list (P := P) w ⟨b, j, none⟩ us (fun q u hu => hc q u (by rw [hl, hus]; exact hu))
  have hst := run_storeCells_at P b i o.e us 0 o.cs.toArray w hb (by simpa using hi) (fun u hu => List.all_eq_true.1 h1 u hu)
  rw [Nat.add_zero] at hst
  have hsz' : (Go.sizeOf e).run P w = .ok 1 w := by simp [Go.sizeOf, typeInfo, hi', hs]
  have hm : (Builtin.lenOf (.slice (some ⟨b, j, none⟩) sn sc)).run P w = .ok sn w := by simp [Builtin.lenOf]
  have hf : (Builtin.firstCells 1 (Nat.min sn dn) (.slice (some ⟨b, j, none⟩) sn sc)).run P w = .ok us.toArray w := by
    rw [hl] at hld
    simpa [Builtin.firstCells] using hld
  have hr : (Builtin.copy_ #[t, sT] ty #[.slice (some ⟨b, i, none⟩) dn dc, .slice (some ⟨b, j, none⟩) sn sc]).run P w = .ok (.int .i64 (Nat.min sn dn : Nat)) (w.setRow b (o.cs.take i ++ us ++ o.cs.drop (i + us.length)).toArray) := by
    simp only [Builtin.copy_, List.getElem?_toArray, List.getElem?_cons_zero, List.getElem?_cons_succ, Sem.run_bind, run_underlying ht.under, Result.andThen_ok, hm, hsz', hf, hst]
    rfl
  have hr2 : (oBi .copy #[t, sT] ty cs [.slice (some ⟨b, i, none⟩) dn dc, .slice (some ⟨b, j, none⟩) sn sc]).run P w = .ok (.value (.int .i64 (Nat.min sn dn : Nat))) (w.setRow b (o.cs.take i ++ us ++ o.cs.drop (i + us.length)).toArray) := run_oV_ok hr
  rw [pN_def, hr2, rN_value]
  exact hk _ (hS1.row _)
end

end Go.Proofs.YtbgnnjfpiblkmaaGreatDoor

namespace Go.Proofs.YtbgnnjfpiblkmaaGreatDoor
open Go
set_option linter.unusedSimpArgs false
set_option linter.unnecessarySimpa false
set_option linter.unusedSectionVars false
set_option linter.unusedVariables false
set_option maxRecDepth 100000

def math_bits_Len.H : Hints := { cut := fun  | _ => none, loop := fun  | _ => ([], 0), order := fun  | _ => [] }
def math_bits_Len.F [Pan] (x0 : Value) (w : World) (Q : Value → World → Prop) : Prop :=
 pIf (.bool false)
 (pN Tryz.prog (oConv 169 148 x0) w fun x4 w1 =>
 pN Tryz.prog (oCall 196 [x4]) w1 fun x5 w2 =>
 Q x5 w2)
 (pN Tryz.prog (oCall 197 [x0]) w fun x7 w3 =>
 Q x7 w3)
noncomputable def math_bits_Len.c : Code := match Tryz.f175.body with | some c => c | none => .skip
theorem math_bits_Len.eq [Pan] (x0 : Value) (w : World) (Q : Value → World → Prop) : cw Tryz.prog math_bits_Len.H math_bits_Len.c (endQ Tryz.prog Tryz.f175.results.toList Q) (argsE [x0]) w = math_bits_Len.F x0 w Q := by kernel_rfl
theorem math_bits_Len.calls [Pan] {x0 : Value} {w : World} {Q : Value → World → Prop} (h : math_bits_Len.F x0 w Q) : Calls Tryz.prog 175 #[x0] w (retP Q) :=
  calls_of_cw (H := math_bits_Len.H) (c := math_bits_Len.c) (args := [x0]) mixed Tryz.func175 (by kernel_rfl) (by kernel_rfl) (Nat.le_of_ble_eq_true (by kernel_rfl)) ((math_bits_Len.eq x0 w Q).mpr h)

def math_bits_Len32.H : Hints := { cut := fun | 4 => some ([0, 2], 125) | 7 => some ([0, 2], 8069) | _ => none, loop := fun  | _ => ([], 0), order := fun  | _ => [] }
def math_bits_Len32.F [Pan] (x0 : Value) (w : World) (Q : Value → World → Prop) : Prop :=
 ∃ I4 : Value → Value → World → Prop,
 (pN Tryz.prog (oBin .geq 148 (.tmp 3) (.const (.int .u32 65536)) x0 (.int .u32 65536)) w fun x4 w1 =>
 pIf x4
 (pN Tryz.prog (oBin .shr 148 (.tmp 5) (.const (.int .u64 16)) x0 (.int .u64 16)) w1 fun x6 w2 =>
 I4 x6 (.int .i64 16) w2)
 (I4 x0 (.int .i64 0) w1)) ∧
 ∀ (_j4 : Env) (x0c4 : Value) (n2c4 : Value) (w3 : World), I4 x0c4 n2c4 w3 →
 ∃ I7 : Value → Value → World → Prop,
 (pN Tryz.prog (oBin .geq 148 (.tmp 7) (.const (.int .u32 256)) x0c4 (.int .u32 256)) w3 fun x8 w4 =>
 pIf x8
 (pN Tryz.prog (oBin .shr 148 (.tmp 9) (.const (.int .u64 8)) x0c4 (.int .u64 8)) w4 fun x10 w5 =>
 pN Tryz.prog (oBin .add 3 (.tmp 11) (.const (.int .i64 8)) n2c4 (.int .i64 8)) w5 fun x12 w6 =>
 I7 x10 x12 w6)
 (I7 x0c4 n2c4 w4)) ∧
 ∀ (_j7 : Env) (x0c7 : Value) (n2c7 : Value) (w7 : World), I7 x0c7 n2c7 w7 →
 pN Tryz.prog (oConv 148 5 x0c7) w7 fun x15 w8 =>
 pN Tryz.prog (oIndex 9 (.string ⟨#[0, 1, 2, 2, 3, 3, 3, 3, 4, 4, 4, 4, 4, 4, 4, 4, 5, 5, 5, 5, 5, 5, 5, 5, 5, 5, 5, 5, 5, 5, 5, 5, 6, 6, 6, 6, 6, 6, 6, 6, 6, 6, 6, 6, 6, 6, 6, 6, 6, 6, 6, 6, 6, 6, 6, 6, 6, 6, 6, 6, 6, 6, 6, 6, 7, 7, 7, 7, 7, 7, 7, 7, 7, 7, 7, 7, 7, 7, 7, 7, 7, 7, 7, 7, 7, 7, 7, 7, 7, 7, 7, 7, 7, 7, 7, 7, 7, 7, 7, 7, 7, 7, 7, 7, 7, 7, 7, 7, 7, 7, 7, 7, 7, 7, 7, 7, 7, 7, 7, 7, 7, 7, 7, 7, 7, 7, 7, 7, 8, 8, 8, 8, 8, 8, 8, 8, 8, 8, 8, 8, 8, 8, 8, 8, 8, 8, 8, 8, 8, 8, 8, 8, 8, 8, 8, 8, 8, 8, 8, 8, 8, 8, 8, 8, 8, 8, 8, 8, 8, 8, 8, 8, 8, 8, 8, 8, 8, 8, 8, 8, 8, 8, 8, 8, 8, 8, 8, 8, 8, 8, 8, 8, 8, 8, 8, 8, 8, 8, 8, 8, 8, 8, 8, 8, 8, 8, 8, 8, 8, 8, 8, 8, 8, 8, 8, 8, 8, 8, 8, 8, 8, 8, 8, 8, 8, 8, 8, 8, 8, 8, 8, 8, 8, 8, 8, 8, 8, 8, 8, 8, 8, 8, 8, 8, 8, 8, 8, 8, 8, 8, 8, 8, 8, 8, 8, 8]⟩) x15) w8 fun x16 w9 =>
 pN Tryz.prog (oConv 5 3 x16) w9 fun x17 w10 =>
 pN Tryz.prog (oBin .add 3 (.tmp 13) (.tmp 17) n2c7 x17) w10 fun x18 w11 =>
 Q x18 w11
noncomputable def math_bits_Len32.c : Code := match Tryz.f196.body with | some c => c | none => .skip
theorem math_bits_Len32.eq [Pan] (x0 : Value) (w : World) (Q : Value → World → Prop) : cw Tryz.prog math_bits_Len32.H math_bits_Len32.c (endQ Tryz.prog Tryz.f196.results.toList Q) (argsE [x0]) w = math_bits_Len32.F x0 w Q := by kernel_rfl
theorem math_bits_Len32.calls [Pan] {x0 : Value} {w : World} {Q : Value → World → Prop} (h : math_bits_Len32.F x0 w Q) : Calls Tryz.prog 196 #[x0] w (retP Q) :=
  calls_of_cw (H := math_bits_Len32.H) (c := math_bits_Len32.c) (args := [x0]) mixed Tryz.func196 (by kernel_rfl) (by kernel_rfl) (Nat.le_of_ble_eq_true (by kernel_rfl)) ((math_bits_Len32.eq x0 w Q).mpr h)

def math_bits_Len64.H : Hints := { cut := fun | 4 => some ([0, 2], 125) | 7 => some ([0, 2], 8069) | 10 => some ([0, 2], 516101) | _ => none, loop := fun  | _ => ([], 0), order := fun  | _ => [] }
def math_bits_Len64.F [Pan] (x0 : Value) (w : World) (Q : Value → World → Prop) : Prop :=
 ∃ I4 : Value → Value → World → Prop,
 (pN Tryz.prog (oBin .geq 188 (.tmp 3) (.const (.int .u64 4294967296)) x0 (.int .u64 4294967296)) w fun x4 w1 =>
 pIf x4
 (pN Tryz.prog (oBin .shr 188 (.tmp 5) (.const (.int .u64 32)) x0 (.int .u64 32)) w1 fun x6 w2 =>
 I4 x6 (.int .i64 32) w2)
 (I4 x0 (.int .i64 0) w1)) ∧
 ∀ (_j4 : Env) (x0c4 : Value) (n2c4 : Value) (w3 : World), I4 x0c4 n2c4 w3 →
 ∃ I7 : Value → Value → World → Prop,
 (pN Tryz.prog (oBin .geq 188 (.tmp 7) (.const (.int .u64 65536)) x0c4 (.int .u64 65536)) w3 fun x8 w4 =>
 pIf x8
 (pN Tryz.prog (oBin .shr 188 (.tmp 9) (.const (.int .u64 16)) x0c4 (.int .u64 16)) w4 fun x10 w5 =>
 pN Tryz.prog (oBin .add 3 (.tmp 11) (.const (.int .i64 16)) n2c4 (.int .i64 16)) w5 fun x12 w6 =>
 I7 x10 x12 w6)
 (I7 x0c4 n2c4 w4)) ∧
 ∀ (_j7 : Env) (x0c7 : Value) (n2c7 : Value) (w7 : World), I7 x0c7 n2c7 w7 →
 ∃ I10 : Value → Value → World → Prop,
 (pN Tryz.prog (oBin .geq 188 (.tmp 13) (.const (.int .u64 256)) x0c7 (.int .u64 256)) w7 fun x14 w8 =>
 pIf x14
 (pN Tryz.prog (oBin .shr 188 (.tmp 15) (.const (.int .u64 8)) x0c7 (.int .u64 8)) w8 fun x16 w9 =>
 pN Tryz.prog (oBin .add 3 (.tmp 17) (.const (.int .i64 8)) n2c7 (.int .i64 8)) w9 fun x18 w10 =>
 I10 x16 x18 w10)
 (I10 x0c7 n2c7 w8)) ∧
 ∀ (_j10 : Env) (x0c10 : Value) (n2c10 : Value) (w11 : World), I10 x0c10 n2c10 w11 →
 pN Tryz.prog (oConv 188 5 x0c10) w11 fun x21 w12 =>
 pN Tryz.prog (oIndex 9 (.string ⟨#[0, 1, 2, 2, 3, 3, 3, 3, 4, 4, 4, 4, 4, 4, 4, 4, 5, 5, 5, 5, 5, 5, 5, 5, 5, 5, 5, 5, 5, 5, 5, 5, 6, 6, 6, 6, 6, 6, 6, 6, 6, 6, 6, 6, 6, 6, 6, 6, 6, 6, 6, 6, 6, 6, 6, 6, 6, 6, 6, 6, 6, 6, 6, 6, 7, 7, 7, 7, 7, 7, 7, 7, 7, 7, 7, 7, 7, 7, 7, 7, 7, 7, 7, 7, 7, 7, 7, 7, 7, 7, 7, 7, 7, 7, 7, 7, 7, 7, 7, 7, 7, 7, 7, 7, 7, 7, 7, 7, 7, 7, 7, 7, 7, 7, 7, 7, 7, 7, 7, 7, 7, 7, 7, 7, 7, 7, 7, 7, 8, 8, 8, 8, 8, 8, 8, 8, 8, 8, 8, 8, 8, 8, 8, 8, 8, 8, 8, 8, 8, 8, 8, 8, 8, 8, 8, 8, 8, 8, 8, 8, 8, 8, 8, 8, 8, 8, 8, 8, 8, 8, 8, 8, 8, 8, 8, 8, 8, 8, 8, 8, 8, 8, 8, 8, 8, 8, 8, 8, 8, 8, 8, 8, 8, 8, 8, 8, 8, 8, 8, 8, 8, 8, 8, 8, 8, 8, 8, 8, 8, 8, 8, 8, 8, 8, 8, 8, 8, 8, 8, 8, 8, 8, 8, 8, 8, 8, 8, 8, 8, 8, 8, 8, 8, 8, 8, 8, 8, 8, 8, 8, 8, 8, 8, 8, 8, 8, 8, 8, 8, 8, 8, 8, 8, 8, 8, 8]⟩) x21) w12 fun x22 w13 =>
 pN Tryz.prog (oConv 5 3 x22) w13 fun x23 w14 =>
 pN Tryz.prog (oBin .add 3 (.tmp 19) (.tmp 23) n2c10 x23) w14 fun x24 w15 =>
 Q x24 w15
noncomputable def math_bits_Len64.c : Code := match Tryz.f197.body with | some c => c | none => .skip
theorem math_bits_Len64.eq [Pan] (x0 : Value) (w : World) (Q : Value → World → Prop) : cw Tryz.prog math_bits_Len64.H math_bits_Len64.c (endQ Tryz.prog Tryz.f197.results.toList Q) (argsE [x0]) w = math_bits_Len64.F x0 w Q := by kernel_rfl
theorem math_bits_Len64.calls [Pan] {x0 : Value} {w : World} {Q : Value → World → Prop} (h : math_bits_Len64.F x0 w Q) : Calls Tryz.prog 197 #[x0] w (retP Q) :=
  calls_of_cw (H := math_bits_Len64.H) (c := math_bits_Len64.c) (args := [x0]) mixed Tryz.func197 (by kernel_rfl) (by kernel_rfl) (Nat.le_of_ble_eq_true (by kernel_rfl)) ((math_bits_Len64.eq x0 w Q).mpr h)

def math_bits_TrailingZeros.H : Hints := { cut := fun  | _ => none, loop := fun  | _ => ([], 0), order := fun  | _ => [] }
def math_bits_TrailingZeros.F [Pan] (x0 : Value) (w : World) (Q : Value → World → Prop) : Prop :=
 pIf (.bool false)
 (pN Tryz.prog (oConv 169 148 x0) w fun x4 w1 =>
 pN Tryz.prog (oCall 223 [x4]) w1 fun x5 w2 =>
 Q x5 w2)
 (pN Tryz.prog (oCall 224 [x0]) w fun x7 w3 =>
 Q x7 w3)
noncomputable def math_bits_TrailingZeros.c : Code := match Tryz.f218.body with | some c => c | none => .skip
theorem math_bits_TrailingZeros.eq [Pan] (x0 : Value) (w : World) (Q : Value → World → Prop) : cw Tryz.prog math_bits_TrailingZeros.H math_bits_TrailingZeros.c (endQ Tryz.prog Tryz.f218.results.toList Q) (argsE [x0]) w = math_bits_TrailingZeros.F x0 w Q := by kernel_rfl
theorem math_bits_TrailingZeros.calls [Pan] {x0 : Value} {w : World} {Q : Value → World → Prop} (h : math_bits_TrailingZeros.F x0 w Q) : Calls Tryz.prog 218 #[x0] w (retP Q) :=
  calls_of_cw (H := math_bits_TrailingZeros.H) (c := math_bits_TrailingZeros.c) (args := [x0]) mixed Tryz.func218 (by kernel_rfl) (by kernel_rfl) (Nat.le_of_ble_eq_true (by kernel_rfl)) ((math_bits_TrailingZeros.eq x0 w Q).mpr h)

def math_bits_TrailingZeros32.H : Hints := { cut := fun  | _ => none, loop := fun  | _ => ([], 0), order := fun  | _ => [] }
def math_bits_TrailingZeros32.F [Pan] (x0 : Value) (w : World) (Q : Value → World → Prop) : Prop :=
 pN Tryz.prog (oBin .eql 148 (.tmp 3) (.const (.int .u32 0)) x0 (.int .u32 0)) w fun x4 w1 =>
 pIf x4
 (Q (.int .i64 32) w1)
 (pN Tryz.prog (oUn .neg x0) w1 fun x7 w2 =>
 pN Tryz.prog (oBin .and 148 (.tmp 5) (.tmp 7) x0 x7) w2 fun x8 w3 =>
 pN Tryz.prog (oBin .mul 148 (.tmp 8) (.const (.int .u32 125613361)) x8 (.int .u32 125613361)) w3 fun x9 w4 =>
 pN Tryz.prog (oBin .shr 148 (.tmp 9) (.const (.int .u64 27)) x9 (.int .u64 27)) w4 fun x10 w5 =>
 pN Tryz.prog (oIdx 297 (.pointer (some ⟨5, 0, none⟩)) x10) w5 fun x11 w6 =>
 pN Tryz.prog (oLoad 5 x11) w6 fun x12 w7 =>
 pN Tryz.prog (oConv 5 3 x12) w7 fun x13 w8 =>
 Q x13 w8)
noncomputable def math_bits_TrailingZeros32.c : Code := match Tryz.f223.body with | some c => c | none => .skip
theorem math_bits_TrailingZeros32.eq [Pan] (x0 : Value) (w : World) (Q : Value → World → Prop) : cw Tryz.prog math_bits_TrailingZeros32.H math_bits_TrailingZeros32.c (endQ Tryz.prog Tryz.f223.results.toList Q) (argsE [x0]) w = math_bits_TrailingZeros32.F x0 w Q := by kernel_rfl
theorem math_bits_TrailingZeros32.calls [Pan] {x0 : Value} {w : World} {Q : Value → World → Prop} (h : math_bits_TrailingZeros32.F x0 w Q) : Calls Tryz.prog 223 #[x0] w (retP Q) :=
  calls_of_cw (H := math_bits_TrailingZeros32.H) (c := math_bits_TrailingZeros32.c) (args := [x0]) mixed Tryz.func223 (by kernel_rfl) (by kernel_rfl) (Nat.le_of_ble_eq_true (by kernel_rfl)) ((math_bits_TrailingZeros32.eq x0 w Q).mpr h)

def math_bits_TrailingZeros64.H : Hints := { cut := fun  | _ => none, loop := fun  | _ => ([], 0), order := fun  | _ => [] }
def math_bits_TrailingZeros64.F [Pan] (x0 : Value) (w : World) (Q : Value → World → Prop) : Prop :=
 pN Tryz.prog (oBin .eql 188 (.tmp 3) (.const (.int .u64 0)) x0 (.int .u64 0)) w fun x4 w1 =>
 pIf x4
 (Q (.int .i64 64) w1)
 (pN Tryz.prog (oUn .neg x0) w1 fun x7 w2 =>
 pN Tryz.prog (oBin .and 188 (.tmp 5) (.tmp 7) x0 x7) w2 fun x8 w3 =>
 pN Tryz.prog (oBin .mul 188 (.tmp 8) (.const (.int .u64 285870213051353865)) x8 (.int .u64 285870213051353865)) w3 fun x9 w4 =>
 pN Tryz.prog (oBin .shr 188 (.tmp 9) (.const (.int .u64 58)) x9 (.int .u64 58)) w4 fun x10 w5 =>
 pN Tryz.prog (oIdx 298 (.pointer (some ⟨6, 0, none⟩)) x10) w5 fun x11 w6 =>
 pN Tryz.prog (oLoad 5 x11) w6 fun x12 w7 =>
 pN Tryz.prog (oConv 5 3 x12) w7 fun x13 w8 =>
 Q x13 w8)
noncomputable def math_bits_TrailingZeros64.c : Code := match Tryz.f224.body with | some c => c | none => .skip
theorem math_bits_TrailingZeros64.eq [Pan] (x0 : Value) (w : World) (Q : Value → World → Prop) : cw Tryz.prog math_bits_TrailingZeros64.H math_bits_TrailingZeros64.c (endQ Tryz.prog Tryz.f224.results.toList Q) (argsE [x0]) w = math_bits_TrailingZeros64.F x0 w Q := by kernel_rfl
theorem math_bits_TrailingZeros64.calls [Pan] {x0 : Value} {w : World} {Q : Value → World → Prop} (h : math_bits_TrailingZeros64.F x0 w Q) : Calls Tryz.prog 224 #[x0] w (retP Q) :=
  calls_of_cw (H := math_bits_TrailingZeros64.H) (c := math_bits_TrailingZeros64.c) (args := [x0]) mixed Tryz.func224 (by kernel_rfl) (by kernel_rfl) (Nat.le_of_ble_eq_true (by kernel_rfl)) ((math_bits_TrailingZeros64.eq x0 w Q).mpr h)

end Go.Proofs.YtbgnnjfpiblkmaaGreatDoor

namespace Go.Proofs.YtbgnnjfpiblkmaaGreatDoor
open Go
set_option linter.unusedSimpArgs false
set_option linter.unnecessarySimpa false
set_option linter.unusedSectionVars false
set_option linter.unusedVariables false

class StrY (P : Program) (t : TypeId) : Prop where
  un : P.underlying t = some .string

section
variable [Pan] {P : Program} {E w : World} {K : Value → World → Prop} {J : Value → Prop} {L M : List HA} {v : Value} {t ty : TypeId} {l r : List UInt8} {k k' : IntKind} {i : Int} {cs : List Bool}

omit [Pan] in
theorem size_str (l : List UInt8) : (ByteArray.mk l.toArray).size = l.length := by simp [ByteArray.size]
omit [Pan] in
theorem run_sidx [h : StrY P t] (j : Nat) (hj : i = (j : Int)) {b : UInt8} (hb : l[j]? = some b) (w : World) : (oIndex t (.string ⟨l.toArray⟩) (.int k i)).run P w = .ok (.value (bv b)) w := by
  subst hj
  obtain ⟨hl, hb⟩ := List.getElem?_eq_some_iff.1 hb
  refine run_oV_ok ?_
  rw [run_index_string w t _ _ _ h.un, dif_pos ⟨by omega, by rw [size_str]; omega⟩]
  unfold bv
  rw [← hb]
  simp [ByteArray.getElem_eq_getElem_data]
theorem pN_sidx [h : StrY P t] (j : Nat) (hj : i = (j : Int)) {b : UInt8} (hb : l[j]? = some b) (hk : K (bv b) w) : pN P (oIndex t (.string ⟨l.toArray⟩) (.int k i)) w K := by
  rw [pN_def, run_sidx j hj hb, rN_value]; exact hk
omit [Pan] in
theorem run_sadd {xo yo : Operand} (hb : l.length + r.length ≤ 9223372036854775807) (w : World) : (oBin .add t xo yo (.string ⟨l.toArray⟩) (.string ⟨r.toArray⟩)).run P w = .ok (.value (.string ⟨(l ++ r).toArray⟩)) w := by
  refine run_bin_of t xo yo (by unfold eqGuard; rfl) ?_
  have e : (ByteArray.mk l.toArray) ++ (ByteArray.mk r.toArray) = ⟨(l ++ r).toArray⟩ := by
    apply ByteArray.ext
    simp
  have hm : ¬ (((ByteArray.mk l.toArray).size + (ByteArray.mk r.toArray).size : Nat) : Int) > IntKind.i64.max := by
    rw [size_str, size_str]
    simp [IntKind.max, IntKind.signed, IntKind.bits]
    omega
  simp only [binOp, Op.stringOp]
  rw [if_neg hm, e]
  rfl
theorem pN_sadd {xo yo : Operand} (hb : l.length + r.length ≤ 9223372036854775807) (hk : K (.string ⟨(l ++ r).toArray⟩) w) : pN P (oBin .add t xo yo (.string ⟨l.toArray⟩) (.string ⟨r.toArray⟩)) w K := by
  rw [pN_def, run_sadd hb, rN_value]; exact hk
end

def rowM {α : Type} (C : Cd α) (s : Sl) (l : List α) : HA := fun h => ∃ g cap cur fr, s = ⟨some ⟨g, 0, none⟩, cap⟩ ∧ h g = some (.cells cur C.e fr) ∧ l.length ≤ cap ∧ cur.toList.take (l.length * C.size) = C.flat l

section
variable [Pan] {P : Program} {E w : World} {K : Value → World → Prop} {J : Value → Prop} {L M : List HA} {v : Value} {t ty d : TypeId} {l r : List UInt8} {α : Type} {C : Cd α} {s : Sl}

omit [Pan] in
theorem cell_of_cells {g j : Nat} {cur : Array Value} {e : TypeId} {fr : Nat × Nat} (h : w.heap[g]? = some (.cells cur e fr)) : w.cell? ⟨g, j, none⟩ = cur[j]? := by
  simp [World.cell?, h]
instance RdP.rowM {l : List α} : RdP C (rowM C s l) s l := ⟨fun w ⟨h1, ⟨g, cap, cur, fr, hs, hg, hc, ht⟩, hh⟩ => by
  subst hs
  refine ⟨C.flat_len l, some ⟨g, 0, none⟩, cap, rfl, hc, fun h => (by cases h), fun a ha j u hu => ?_⟩
  cases ha
  rw [← ht, List.getElem?_take] at hu
  split at hu
  · rw [Addr.add_lit, Nat.zero_add, cell_of_cells (hh _ _ hg)]
    simpa using hu
  · cases hu⟩

omit [Pan] in
class StrB (P : Program) (d t : TypeId) (B : outParam (Cd UInt8)) : Prop where
  ss : P.underlying d = some .string
  tt : P.underlying t = some (.slice B.e)
  ee : P.underlying B.e = some (.int .u8)
  size : B.size = 1
  enc : ∀ b, B.enc b = [bv b]
theorem pN_tobs {B : Cd UInt8} (hS : Sat E w L) [h : StrB P d t B] (hl : l.length ≤ maxLen) (hk : ∀ s w', Sat E w' (rowM B s l :: L) → K (.slice s.a l.length s.c) w') : pN P (oConv d t (.string ⟨l.toArray⟩)) w K := by
  have hr := run_bytes_of_string (P := P) w d t B.e ⟨l.toArray⟩ h.ss h.tt h.ee
  rw [size_str] at hr
  rw [pN_def, show (oConv d t (.string ⟨l.toArray⟩)).run P w = _ from run_oV_ok hr, rN_value]
  refine hk ⟨some ⟨w.heap.size, 0, none⟩, grownCap w l.length 0 B.e⟩ _ ?_
  have h1 := (hS.drew).alloc (.cells (bytesRow ⟨l.toArray⟩ (grownCap w l.length 0 B.e)) B.e ((bytesRow ⟨l.toArray⟩ (grownCap w l.length 0 B.e)).size, (bytesRow ⟨l.toArray⟩ (grownCap w l.length 0 B.e)).size + 1))
  refine h1.weaken fun hp hb => ⟨_, _, _, _, rfl, hb, grownCap_ge w l.length 0 B.e, ?_⟩
  rw [h.size, Nat.mul_one, B.flat_single bv h.enc]
  simp only [bytesRow, Array.toList_append, Array.toList_map]
  have e : (List.map (fun b => Value.int .u8 (b.toNat : Int)) l) = l.map bv := rfl
  rw [e, List.take_left' (by simp)]
end

section
variable [Pan] {P : Program} {E w : World} {K : Value → World → Prop} {L M : List HA} {v : Value} {t tn ty : TypeId} {α : Type} {C : Cd α} {s : Sl} {l : List α}

end

section
variable [Pan] {P : Program} {E w : World} {K : Value → World → Prop} {L M : List HA} {v : Value} {t tt ty : TypeId} {α : Type} {C : Cd α} {s s2 : Sl} {l r : List α}

omit [Pan] in
theorem El.sub {o j : Nat} {a : Addr} (h : El C (s.sub o C.size) j a) (hc : o < s.c) : El C s (o + j) a := by
  obtain ⟨b, hb, rfl⟩ := h
  have hne : ¬ s.c = o := by omega
  simp only [Sl.sub, if_neg hne] at hb
  cases hs : s.a with
  | none => rw [hs] at hb; cases hb
  | some b0 =>
    rw [hs] at hb
    simp only [Option.map_some, Option.some.injEq] at hb
    subst hb
    exact ⟨b0, hs, by rw [Addr.add_add, Nat.add_mul]⟩

def putL {α : Type} (l : List α) (o : Nat) (us : List α) : List α := l.take o ++ us ++ l.drop (o + us.length)
omit [Pan] in
theorem putL_len (l : List α) (o : Nat) (us : List α) (h : o + us.length ≤ l.length) : (putL l o us).length = l.length := by simp [putL]; omega

theorem pN_cp_gen {bytes : Nat} {z : Value} {e : TypeId} {size g n cap o dn dc m : Nat} {xs us : List Value} {src : Value} {sT : TypeId} {cs : List Bool} (ht : SlT P t e z size bytes) (hS : Sat E w (own e size (.slice (some ⟨g, 0, none⟩) n cap) n xs :: L))
    (hm : (Builtin.lenOf src).run P w = .ok m w) (hc : (Builtin.firstCells size (Nat.min m dn) src).run P w = .ok us.toArray w) (hus : us.length = Nat.min m dn * size) (h1 : ∀ u ∈ us, u.oneCell' = true) (hfit : o * size + us.length ≤ xs.length)
    (hk : ∀ w', Sat E w' (own e size (.slice (some ⟨g, 0, none⟩) n cap) n (xs.take (o * size) ++ us ++ xs.drop (o * size + us.length)) :: L) → K (.int .i64 (Nat.min m dn : Nat)) w') :
    pN P (oBi .copy #[t, sT] ty cs [.slice (some ⟨g, o * size, none⟩) dn dc, src]) w K := by
  obtain ⟨i, hi, hz, hs, hby⟩ := ht.info
  obtain ⟨cur, ⟨hl, hnc, hcm, hsz, htk⟩, hS1⟩ := hS.own_blk
  have hxl : xs.length ≤ cur.size := by
    rw [hl, hsz]; exact Nat.mul_le_mul_right _ hnc
  have hst := run_storeCells_at P g (o * size) e us 0 cur w (hS1.blk_at 0 rfl) (by omega) h1
  rw [Nat.add_zero] at hst
  have hr : (Builtin.copy_ #[t, sT] ty #[.slice (some ⟨g, o * size, none⟩) dn dc, src]).run P w = .ok (.int .i64 (Nat.min m dn : Nat)) (w.setRow g (cur.toList.take (o * size) ++ us ++ cur.toList.drop (o * size + us.length)).toArray) := by
    have hsz' : (Go.sizeOf e).run P w = .ok size w := by simp [Go.sizeOf, typeInfo, hi, hs]
    simp only [Builtin.copy_, List.getElem?_toArray, List.getElem?_cons_zero, List.getElem?_cons_succ, Sem.run_bind, run_underlying ht.under, Result.andThen_ok, hm, hsz', hc, hst]
    rfl
  have hr2 : (oBi .copy #[t, sT] ty cs [.slice (some ⟨g, o * size, none⟩) dn dc, src]).run P w = .ok (.value (.int .i64 (Nat.min m dn : Nat))) (w.setRow g (cur.toList.take (o * size) ++ us ++ cur.toList.drop (o * size + us.length)).toArray) := run_oV_ok hr
  rw [pN_def, hr2, rN_value]
  refine hk _ ((hS1.row _).weaken fun hp hb => ?_)
  have h3 := blk_own (n := n) (size := size) hnc hcm (cur := (cur.toList.take (o * size) ++ us ++ cur.toList.drop (o * size + us.length)).toArray) (by simp; omega) hb
  have e : ((cur.toList.take (o * size) ++ us ++ cur.toList.drop (o * size + us.length)).toArray).toList.take (n * size) = xs.take (o * size) ++ us ++ xs.drop (o * size + us.length) := by
    rw [← htk] at hfit ⊢
    have h5 : n * size ≤ cur.size := by rw [hsz]; exact Nat.mul_le_mul_right _ hnc
    simp only [List.length_take, Array.length_toList] at hfit
    simp only [List.take_append, List.take_take, List.drop_take, List.length_take, List.length_append, Array.length_toList]
    have a1 : min (n * size) (o * size) = o * size := by omega
    have a2 : min (o * size) (n * size) = o * size := by omega
    have a3 : min (o * size) cur.size = o * size := by omega
    rw [a1, a2, a3, List.take_of_length_le (l := us) (by omega)]
  rw [e] at h3
  exact h3

omit [Pan] in
theorem sub_addr {o g : Nat} (hg : s.a = some ⟨g, 0, none⟩) (hc : o < s.c) (size : Nat) : (s.sub o size).a = some ⟨g, o * size, none⟩ := by
  simp only [Sl.sub, if_neg (show ¬ s.c = o by omega), hg, Option.map_some, Addr.add_lit, Nat.zero_add]
omit [Pan] in
theorem rows_at {l : List α} (hS : Sat E w L) [hf : Fnd (rows C s) L l M] (h : 0 < l.length) : ∃ g, s.a = some ⟨g, 0, none⟩ ∧ l.length ≤ s.c := by
  obtain ⟨_, ⟨h1, h2⟩ | ⟨g, cap, cur, h1, _, _, h3, _⟩⟩ := (hS.fd (rows C s)).own_at 0 rfl
  · omega
  · simp only [Value.slice.injEq, true_and] at h1
    exact ⟨g, h1.1, by rw [h1.2]; exact h3⟩

theorem pN_cp {cs : List Bool} {dn n2 dc : Nat} (hS : Sat E w L) [hw : Row P t α C] [hf : Fnd (rows C s) L l M] [hr : Rds C L s2 r] (o : Nat) (hn : o + dn ≤ l.length) (h0 : 0 < dn) (hn2 : n2 = r.length)
    (hk : ∀ w', Sat E w' (rows C s (putL l o (r.take dn)) :: M) → K (.int .i64 (min r.length dn : Nat)) w') : pN P (oBi .copy #[t, t] ty cs [.slice (s.sub o C.size).a dn dc, .slice s2.a n2 s2.c]) w K := by
  subst hn2
  have hS0 := hS.fd (rows C s)
  obtain ⟨g, hg, hc⟩ := rows_at (C := C) (s := s) hS (by omega)
  have hrd := hS.rds (C := C) (s := s2)
  rw [sub_addr hg (by omega)]
  have hsl := Row.slt (P := P) (t := t) (C := C)
  have hfl := C.flat_len l
  have hfr := C.flat_len (r.take dn)
  unfold rows at hS0
  rw [hg] at hS0
  have hmin : r.length.min dn = (r.take dn).length := by simp [Nat.min_comm] <;> rfl
  refine pN_cp_gen (m := r.length) (us := C.flat (r.take dn)) hsl hS0 (by simp [Builtin.lenOf]) ?_ (by rw [hfr, hmin]) (C.flat_one _) ?_ fun w' h3 => ?_
  · obtain ⟨hl2, ao, cap, hv, hcap, hnil, hcell⟩ := hrd
    simp only [Value.slice.injEq, true_and] at hv
    obtain ⟨hv1, hv2⟩ := hv
    rw [hv1]
    cases ao with
    | none =>
      have : r = [] := List.length_eq_zero_iff.1 (hnil rfl).1
      subst this
      simp [Builtin.firstCells, Cd.flat]
    | some a =>
      have := run_loadCells_list (P := P) w a (C.flat (r.take dn)) (fun j u hu => hcell a rfl j u (by
        rw [← C.flat_take, List.getElem?_take] at hu
        split at hu
        · exact hu
        · cases hu))
      rw [hfr, ← hmin] at this
      simpa [Builtin.firstCells] using this
  · rw [hfr, hfl, ← Nat.add_mul]
    exact Nat.mul_le_mul_right _ (by simp; omega)
  · have e : (C.flat l).take (o * C.size) ++ C.flat (r.take dn) ++ (C.flat l).drop (o * C.size + (C.flat (r.take dn)).length) = C.flat (putL l o (r.take dn)) := by
      rw [hfr, ← Nat.add_mul, C.flat_take, C.flat_drop, putL, C.flat_append, C.flat_append]
    rw [e] at h3
    have hlen := putL_len l o (r.take dn) (by simp; omega)
    have h4 := hk w' (by unfold rows; rw [hg, hlen]; exact h3)
    exact h4

end

section
variable [Pan] {P : Program} {E w : World} {K : Value → World → Prop} {J : Value → Prop} {L M : List HA} {t : TypeId} {α : Type} {C : Cd α} {s : Sl} {l : List α} {n : Nat} {k1 k2 : IntKind} {i1 i2 : Int}

theorem pA_sl1w (hS : Sat E w L) [Row P t α C] [h : Rds C L s l] (lo : Nat) (h1 : i1 = (lo : Int)) (hn : n = l.length) (hlo : lo ≤ l.length)
    (hk : Rds C L (s.sub lo C.size) (l.drop lo) → J (.slice (s.sub lo C.size).a (l.length - lo) (s.sub lo C.size).c)) : pA P (oSl t (.slice s.a n s.c) (some (.int k1 i1)) none none) J := by
  subst h1 hn
  refine pA_sl_l (Row.slt (C := C)) (hS.rds (C := C) (s := s)) (by omega) (by omega) ?_
  rw [Int.toNat_natCast, subV_sl]
  refine hk ?_
  have := Rds.sub (C := C) (L := L) (s := s) (l := l) lo l.length hlo (Nat.le_refl _)
  rwa [List.take_of_length_le (by simp)] at this
theorem pA_slhw (hS : Sat E w L) [Row P t α C] [h : Rds C L s l] (hi : Nat) (h2 : i2 = (hi : Int)) (hn : n = l.length) (hhi : hi ≤ l.length)
    (hk : Rds C L (s.sub 0 C.size) (l.take hi) → J (.slice (s.sub 0 C.size).a hi (s.sub 0 C.size).c)) : pA P (oSl t (.slice s.a n s.c) none (some (.int k2 i2)) none) J := by
  subst h2 hn
  refine pA_sl_h (Row.slt (C := C)) (hS.rds (C := C) (s := s)) (by omega) (by omega) ?_
  rw [Int.toNat_natCast, subV_sl]
  refine hk ?_
  have := Rds.sub (C := C) (L := L) (s := s) (l := l) 0 hi (Nat.zero_le _) hhi
  rwa [List.drop_zero, Nat.sub_zero] at this
end

section
variable [Pan] {P : Program} {E w : World} {K : Value → World → Prop} {J : Value → Prop} {L M : List HA} {t : TypeId} {α : Type} {C : Cd α} {xo yo : Operand} {n c m d : Nat} {p : Option Addr}

end

section
variable [Pan] {P : Program} {E w : World} {K : Value → World → Prop} {L M : List HA} {t e : TypeId} {C : Cd UInt8} {s : Sl} {l : List UInt8}

end

end Go.Proofs.YtbgnnjfpiblkmaaGreatDoor

namespace Go.Proofs.YtbgnnjfpiblkmaaGreatDoor
open Go
set_option linter.unusedSimpArgs false
set_option linter.unnecessarySimpa false
set_option linter.unusedSectionVars false
set_option linter.unusedVariables false
attribute [local irreducible] oMv oV oU oCall oCallV oBi oBin oUn oLoad oStore oNil oFld oField oIdx oIndex oPick oAlloc oBox oBuild oBs oConv oMk oSl oExt oFn oIface oMap oLook oMapUp oRange oNext oEntry oInv oAssert oPanic oRes pN pA pL pDr pIf gA pGd

def len8 : List UInt8 := (List.range 256).map fun i => if i = 0 then 0 else UInt8.ofNat (i.log2 + 1)
theorem len8_at {y : Nat} (h1 : y < 256) (h2 : 0 < y) : ∃ b : UInt8, len8[y]? = some b ∧ b.toNat = y.log2 + 1 := by
  refine ⟨UInt8.ofNat (y.log2 + 1), ?_, ?_⟩
  · rw [len8, List.getElem?_map, List.getElem?_range h1, Option.map_some, if_neg (by omega)]
  · have : y.log2 < 8 := (Nat.log2_lt (by omega)).2 h1
    simp only [UInt8.toNat_ofNat']
    omega
theorem pN_len8 [Pan] {P : Program} {w : World} {K : Value → World → Prop} {t : TypeId} [StrY P t] {l : List UInt8} {y : Nat} (hl : l = len8) (h1 : y < 256) (h2 : 0 < y) (hk : ∀ b : UInt8, b.toNat = y.log2 + 1 → K (bv b) w) :
    pN P (oIndex t (.string ⟨l.toArray⟩) (bv (byteOf (y : Int)))) w K := by
  subst hl
  obtain ⟨b, hb, hv⟩ := len8_at h1 h2
  unfold bv
  refine pN_sidx y ?_ hb (hk b hv)
  rw [byteOf_toNat]; omega
theorem log2_of_div {x n y : Nat} (h : x / 2 ^ n = y) (hy : 0 < y) : x.log2 = n + y.log2 := by
  have hp : 0 < 2 ^ n := Nat.two_pow_pos n
  have hx : x ≠ 0 := by rintro rfl; simp at h; omega
  rw [Nat.log2_eq_iff hx]
  have h1 : 2 ^ y.log2 ≤ y := Nat.log2_self_le (by omega)
  have h2 : y < 2 ^ (y.log2 + 1) := Nat.lt_log2_self
  constructor
  · rw [Nat.pow_add, Nat.mul_comm]
    calc 2 ^ y.log2 * 2 ^ n ≤ y * 2 ^ n := Nat.mul_le_mul_right _ h1
      _ ≤ x := by rw [← h]; exact Nat.div_mul_le_self x (2 ^ n)
  · rw [Nat.add_assoc, Nat.pow_add, Nat.mul_comm, ← Nat.div_lt_iff_lt_mul hp, h]
    exact h2
theorem div_step {x n y k : Nat} (h : x / 2 ^ n = y) : x / 2 ^ (n + k) = y / 2 ^ k := by
  rw [Nat.pow_add, ← Nat.div_div_eq_div_mul, h]

instance stry : StrY Tryz.prog 9 := ⟨Tryz.underlying9⟩

section
variable {w : World} {Q : Value → World → Prop}
theorem Len64_ok (x : Nat) (h0 : 0 < x) (h1 : x < 9223372036854775808) (hQ : Q (.int .i64 (x.log2 + 1 : Nat)) w) : Calls Tryz.prog 197 #[.int .u64 x] w (retP Q) := by
  refine math_bits_Len64.calls ?_
  unfold math_bits_Len64.F
  refine ⟨fun v c w' => ∃ (y n : Nat), v = .int .u64 y ∧ c = .int .i64 n ∧ 0 < y ∧ y < 4294967296 ∧ n ≤ 32 ∧ x / 2 ^ n = y ∧ w' = w, ?_, ?_⟩
  · repeat' (first | ((first | refine pN_lss_s ?_ ?_ | refine pA_lss_s ?_ ?_ | refine pN_lss_sb ?_ ?_ | refine pN_leq_s ?_ ?_ | refine pA_leq_s ?_ ?_ | refine pN_leq_sb ?_ ?_ | refine pN_gtr_s ?_ ?_ | refine pA_gtr_s ?_ ?_ | refine pN_gtr_sb ?_ ?_ | refine pN_geq_s ?_ ?_ | refine pA_geq_s ?_ ?_ | refine pN_geq_sb ?_ ?_) <;> intro hc <;> try (exfalso; omega)) | ((first | refine pN_eql_s ?_ ?_ | refine pA_eql_s ?_ ?_ | refine pN_eql_sb ?_ ?_ | refine pA_eql_sb ?_ ?_ | refine pN_eql_ss ?_ ?_ | refine pA_eql_ss ?_ ?_ | refine pN_neq_s ?_ ?_ | refine pA_neq_s ?_ ?_ | refine pN_neq_sb ?_ ?_ | refine pA_neq_sb ?_ ?_ | refine pN_neq_ss ?_ ?_ | refine pA_neq_ss ?_ ?_) <;> intro hc <;> try (exfalso; first | omega | exact hc rfl | exact hc (by assumption) | exact absurd hc (by assumption))) | refine pIf_t ?_ | refine pIf_f ?_ | refine gA_go (by rfl) ?_ | refine gA_no (by rfl) ?_ | refine pGd_go (by rfl) ?_ | refine pGd_no (by rfl) ?_ | refine pN_tob ?_ | refine pL_tob ?_ | refine pN_ofb ?_ | refine pL_ofb ?_ | refine pN_l hS (by first | rfl | assumption) ?_ | refine pL_l hS (by first | rfl | assumption) ?_ | refine pN_ld1 ha hS ?_ | refine pL_ld1 ha hS ?_ | refine pN_ld_at ha hS (by rfl) ?_ | refine pL_ld_at ha hS (by rfl) ?_ | refine pN_fa ha (by rfl) fun a ha => ?_ | refine pA_fa ha (by rfl) fun a ha => ?_ | refine pN_la hS (by rfl) ?_ | refine pL_la hS (by rfl) ?_ | refine pL_r hS (by rfl) ?_ | refine pL_ra hS (by rfl) ?_ | (refine pN_s hS (by first | exact Nat.le_of_ble_eq_true rfl | assumption) (by rfl) ?_; clear hS; intro w hS; try simp only [List.set_cons_zero, List.set_cons_succ] at hS) | (refine pN_sa hS (by rfl) (by rfl) (by rfl) ?_; clear hS; intro w hS; try dsimp only at hS) | (refine pDr_go hS ?_; clear hS; intro w hS) | (refine pN_nz hS ?_; clear hS; intro a w hS) | (refine pN_bx hS (by rfl) ?_; clear hS; intro a w hS) | refine ⟨trivial, ?_⟩ | refine ⟨⟨(by first | exact run_l hS (by first | rfl | assumption) | exact run_st hS (by first | rfl | omega) | exact run_ld1 ha hS | exact fun _ => run_l hS (by rfl) | exact fun _ => run_st hS (by first | rfl | omega) | exact fun _ => run_ld1 ha hS | exact fun h => Bool.noConfusion h), trivial⟩, ?_⟩ | refine ⟨⟨(by first | exact run_l hS (by first | rfl | assumption) | exact run_st hS (by first | rfl | omega) | exact run_ld1 ha hS | exact fun _ => run_l hS (by rfl) | exact fun _ => run_st hS (by first | rfl | omega) | exact fun _ => run_ld1 ha hS | exact fun h => Bool.noConfusion h), (by first | exact run_l hS (by first | rfl | assumption) | exact run_st hS (by first | rfl | omega) | exact run_ld1 ha hS | exact fun _ => run_l hS (by rfl) | exact fun _ => run_st hS (by first | rfl | omega) | exact fun _ => run_ld1 ha hS | exact fun h => Bool.noConfusion h), trivial⟩, ?_⟩ | refine ⟨⟨(by first | exact run_l hS (by first | rfl | assumption) | exact run_st hS (by first | rfl | omega) | exact run_ld1 ha hS | exact fun _ => run_l hS (by rfl) | exact fun _ => run_st hS (by first | rfl | omega) | exact fun _ => run_ld1 ha hS | exact fun h => Bool.noConfusion h), (by first | exact run_l hS (by first | rfl | assumption) | exact run_st hS (by first | rfl | omega) | exact run_ld1 ha hS | exact fun _ => run_l hS (by rfl) | exact fun _ => run_st hS (by first | rfl | omega) | exact fun _ => run_ld1 ha hS | exact fun h => Bool.noConfusion h), (by first | exact run_l hS (by first | rfl | assumption) | exact run_st hS (by first | rfl | omega) | exact run_ld1 ha hS | exact fun _ => run_l hS (by rfl) | exact fun _ => run_st hS (by first | rfl | omega) | exact fun _ => run_ld1 ha hS | exact fun h => Bool.noConfusion h), trivial⟩, ?_⟩ | refine pN_ixk hS _ (by first | rfl | (exact (Int.toNat_of_nonneg (by omega)).symm)) (by first | rfl | omega | simpa only [go_sem] using True.intro | (simp only [go_sem]; omega)) (by assumption) fun a ha hel => ?_ | refine pA_ixk hS _ (by first | rfl | (exact (Int.toNat_of_nonneg (by omega)).symm)) (by first | rfl | omega | simpa only [go_sem] using True.intro | (simp only [go_sem]; omega)) (by assumption) fun a ha hel => ?_ | refine pN_ix hS _ (by first | rfl | (exact (Int.toNat_of_nonneg (by omega)).symm)) (by first | rfl | omega | simpa only [go_sem] using True.intro | (simp only [go_sem]; omega)) (by first | omega | (simp only [go_sem]; omega)) fun a x hx ha hel => ?_ | refine pA_ix hS _ (by first | rfl | (exact (Int.toNat_of_nonneg (by omega)).symm)) (by first | rfl | omega | simpa only [go_sem] using True.intro | (simp only [go_sem]; omega)) (by first | omega | (simp only [go_sem]; omega)) fun a x hx ha hel => ?_ | (refine pN_sr hel hS (by rfl) (by rfl) (by first | omega | (simp only [go_sem]; omega)) ?_; clear hS; intro w hS) | (refine pN_b1 hS (by rfl) (by decide) ?_; clear hS; intro s w hS) | (refine pN_b0 hS ?_; clear hS; intro s w hS) | (refine pN_app hS (by first | rfl | omega | simpa only [go_sem] using True.intro | (simp only [go_sem]; omega)) (by first | rfl | omega | simpa only [go_sem] using True.intro | (simp only [go_sem]; omega)) (by first | omega | (simp only [go_sem]; omega)) ?_; clear hS; intro s w hS) | (refine pN_app0 hS (by first | rfl | omega | simpa only [go_sem] using True.intro | (simp only [go_sem]; omega)) (by first | omega | (simp only [go_sem]; omega)) ?_; clear hS; intro s w hS) | (refine pN_mk hS _ (by first | rfl | (exact (Int.toNat_of_nonneg (by omega)).symm)) (by first | omega | (simp only [go_sem]; omega)) ?_; clear hS; intro s w hS) | (refine pN_mk0 hS _ (by first | rfl | (exact (Int.toNat_of_nonneg (by omega)).symm)) (by first | omega | (simp only [go_sem]; omega)) ?_; clear hS; intro s w hS) | refine pN_st hS (by first | rfl | omega | simpa only [go_sem] using True.intro | (simp only [go_sem]; omega)) ?_ | refine pL_st hS (by first | rfl | omega | simpa only [go_sem] using True.intro | (simp only [go_sem]; omega)) ?_ | refine pN_fn ?_ | refine pN_via (by (intro K; simp (disch := omega) only [go_sem, pN_min, pN_max, w_u32, w_u64, Option.isNone_some, Option.isNone_none]; (try simp only [wrap_u32, wrap_u64]); rfl)) ?_ | refine pA_via (by (intro K; simp (disch := omega) only [go_sem, pN_min, pN_max, w_u32, w_u64, Option.isNone_some, Option.isNone_none]; (try simp only [wrap_u32, wrap_u64]); rfl)) ?_ | refine pL_via (by (intro K; simp (disch := omega) only [go_sem, pN_min, pN_max, w_u32, w_u64, Option.isNone_some, Option.isNone_none]; (try simp only [wrap_u32, wrap_u64]); rfl)) ?_ | refine ⟨_, ?_, fun _ _ h => h⟩ | refine ⟨_, ?_, fun _ _ _ h => h⟩ | refine ⟨_, ?_, fun _ _ _ _ h => h⟩ | refine ⟨_, ?_, fun _ _ _ _ _ h => h⟩ | fail)
    · exact ⟨x / 4294967296, 32, by congr 1, rfl, by omega, by omega, by omega, rfl, rfl⟩
    · exact ⟨x, 0, rfl, rfl, by omega, by omega, by omega, by simp, rfl⟩
  rintro _ _ _ w1 ⟨y, n, rfl, rfl, a0, a1, a2, a3, rfl⟩
  refine ⟨fun v c w' => ∃ (y n : Nat), v = .int .u64 y ∧ c = .int .i64 n ∧ 0 < y ∧ y < 65536 ∧ n ≤ 48 ∧ x / 2 ^ n = y ∧ w' = w1, ?_, ?_⟩
  · repeat' (first | ((first | refine pN_lss_s ?_ ?_ | refine pA_lss_s ?_ ?_ | refine pN_lss_sb ?_ ?_ | refine pN_leq_s ?_ ?_ | refine pA_leq_s ?_ ?_ | refine pN_leq_sb ?_ ?_ | refine pN_gtr_s ?_ ?_ | refine pA_gtr_s ?_ ?_ | refine pN_gtr_sb ?_ ?_ | refine pN_geq_s ?_ ?_ | refine pA_geq_s ?_ ?_ | refine pN_geq_sb ?_ ?_) <;> intro hc <;> try (exfalso; omega)) | ((first | refine pN_eql_s ?_ ?_ | refine pA_eql_s ?_ ?_ | refine pN_eql_sb ?_ ?_ | refine pA_eql_sb ?_ ?_ | refine pN_eql_ss ?_ ?_ | refine pA_eql_ss ?_ ?_ | refine pN_neq_s ?_ ?_ | refine pA_neq_s ?_ ?_ | refine pN_neq_sb ?_ ?_ | refine pA_neq_sb ?_ ?_ | refine pN_neq_ss ?_ ?_ | refine pA_neq_ss ?_ ?_) <;> intro hc <;> try (exfalso; first | omega | exact hc rfl | exact hc (by assumption) | exact absurd hc (by assumption))) | refine pIf_t ?_ | refine pIf_f ?_ | refine gA_go (by rfl) ?_ | refine gA_no (by rfl) ?_ | refine pGd_go (by rfl) ?_ | refine pGd_no (by rfl) ?_ | refine pN_tob ?_ | refine pL_tob ?_ | refine pN_ofb ?_ | refine pL_ofb ?_ | refine pN_l hS (by first | rfl | assumption) ?_ | refine pL_l hS (by first | rfl | assumption) ?_ | refine pN_ld1 ha hS ?_ | refine pL_ld1 ha hS ?_ | refine pN_ld_at ha hS (by rfl) ?_ | refine pL_ld_at ha hS (by rfl) ?_ | refine pN_fa ha (by rfl) fun a ha => ?_ | refine pA_fa ha (by rfl) fun a ha => ?_ | refine pN_la hS (by rfl) ?_ | refine pL_la hS (by rfl) ?_ | refine pL_r hS (by rfl) ?_ | refine pL_ra hS (by rfl) ?_ | (refine pN_s hS (by first | exact Nat.le_of_ble_eq_true rfl | assumption) (by rfl) ?_; clear hS; intro w hS; try simp only [List.set_cons_zero, List.set_cons_succ] at hS) | (refine pN_sa hS (by rfl) (by rfl) (by rfl) ?_; clear hS; intro w hS; try dsimp only at hS) | (refine pDr_go hS ?_; clear hS; intro w hS) | (refine pN_nz hS ?_; clear hS; intro a w hS) | (refine pN_bx hS (by rfl) ?_; clear hS; intro a w hS) | refine ⟨trivial, ?_⟩ | refine ⟨⟨(by first | exact run_l hS (by first | rfl | assumption) | exact run_st hS (by first | rfl | omega) | exact run_ld1 ha hS | exact fun _ => run_l hS (by rfl) | exact fun _ => run_st hS (by first | rfl | omega) | exact fun _ => run_ld1 ha hS | exact fun h => Bool.noConfusion h), trivial⟩, ?_⟩ | refine ⟨⟨(by first | exact run_l hS (by first | rfl | assumption) | exact run_st hS (by first | rfl | omega) | exact run_ld1 ha hS | exact fun _ => run_l hS (by rfl) | exact fun _ => run_st hS (by first | rfl | omega) | exact fun _ => run_ld1 ha hS | exact fun h => Bool.noConfusion h), (by first | exact run_l hS (by first | rfl | assumption) | exact run_st hS (by first | rfl | omega) | exact run_ld1 ha hS | exact fun _ => run_l hS (by rfl) | exact fun _ => run_st hS (by first | rfl | omega) | exact fun _ => run_ld1 ha hS | exact fun h => Bool.noConfusion h), trivial⟩, ?_⟩ | refine ⟨⟨(by first | exact run_l hS (by first | rfl | assumption) | exact run_st hS (by first | rfl | omega) | exact run_ld1 ha hS | exact fun _ => run_l hS (by rfl) | exact fun _ => run_st hS (by first | rfl | omega) | exact fun _ => run_ld1 ha hS | exact fun h => Bool.noConfusion h), (by first | exact run_l hS (by first | rfl | assumption) | exact run_st hS (by first | rfl | omega) | exact run_ld1 ha hS | exact fun _ => run_l hS (by rfl) | exact fun _ => run_st hS (by first | rfl | omega) | exact fun _ => run_ld1 ha hS | exact fun h => Bool.noConfusion h), (by first | exact run_l hS (by first | rfl | assumption) | exact run_st hS (by first | rfl | omega) | exact run_ld1 ha hS | exact fun _ => run_l hS (by rfl) | exact fun _ => run_st hS (by first | rfl | omega) | exact fun _ => run_ld1 ha hS | exact fun h => Bool.noConfusion h), trivial⟩, ?_⟩ | refine pN_ixk hS _ (by first | rfl | (exact (Int.toNat_of_nonneg (by omega)).symm)) (by first | rfl | omega | simpa only [go_sem] using True.intro | (simp only [go_sem]; omega)) (by assumption) fun a ha hel => ?_ | refine pA_ixk hS _ (by first | rfl | (exact (Int.toNat_of_nonneg (by omega)).symm)) (by first | rfl | omega | simpa only [go_sem] using True.intro | (simp only [go_sem]; omega)) (by assumption) fun a ha hel => ?_ | refine pN_ix hS _ (by first | rfl | (exact (Int.toNat_of_nonneg (by omega)).symm)) (by first | rfl | omega | simpa only [go_sem] using True.intro | (simp only [go_sem]; omega)) (by first | omega | (simp only [go_sem]; omega)) fun a x hx ha hel => ?_ | refine pA_ix hS _ (by first | rfl | (exact (Int.toNat_of_nonneg (by omega)).symm)) (by first | rfl | omega | simpa only [go_sem] using True.intro | (simp only [go_sem]; omega)) (by first | omega | (simp only [go_sem]; omega)) fun a x hx ha hel => ?_ | (refine pN_sr hel hS (by rfl) (by rfl) (by first | omega | (simp only [go_sem]; omega)) ?_; clear hS; intro w hS) | (refine pN_b1 hS (by rfl) (by decide) ?_; clear hS; intro s w hS) | (refine pN_b0 hS ?_; clear hS; intro s w hS) | (refine pN_app hS (by first | rfl | omega | simpa only [go_sem] using True.intro | (simp only [go_sem]; omega)) (by first | rfl | omega | simpa only [go_sem] using True.intro | (simp only [go_sem]; omega)) (by first | omega | (simp only [go_sem]; omega)) ?_; clear hS; intro s w hS) | (refine pN_app0 hS (by first | rfl | omega | simpa only [go_sem] using True.intro | (simp only [go_sem]; omega)) (by first | omega | (simp only [go_sem]; omega)) ?_; clear hS; intro s w hS) | (refine pN_mk hS _ (by first | rfl | (exact (Int.toNat_of_nonneg (by omega)).symm)) (by first | omega | (simp only [go_sem]; omega)) ?_; clear hS; intro s w hS) | (refine pN_mk0 hS _ (by first | rfl | (exact (Int.toNat_of_nonneg (by omega)).symm)) (by first | omega | (simp only [go_sem]; omega)) ?_; clear hS; intro s w hS) | refine pN_st hS (by first | rfl | omega | simpa only [go_sem] using True.intro | (simp only [go_sem]; omega)) ?_ | refine pL_st hS (by first | rfl | omega | simpa only [go_sem] using True.intro | (simp only [go_sem]; omega)) ?_ | refine pN_fn ?_ | refine pN_via (by (intro K; simp (disch := omega) only [go_sem, pN_min, pN_max, w_u32, w_u64, Option.isNone_some, Option.isNone_none]; (try simp only [wrap_u32, wrap_u64]); rfl)) ?_ | refine pA_via (by (intro K; simp (disch := omega) only [go_sem, pN_min, pN_max, w_u32, w_u64, Option.isNone_some, Option.isNone_none]; (try simp only [wrap_u32, wrap_u64]); rfl)) ?_ | refine pL_via (by (intro K; simp (disch := omega) only [go_sem, pN_min, pN_max, w_u32, w_u64, Option.isNone_some, Option.isNone_none]; (try simp only [wrap_u32, wrap_u64]); rfl)) ?_ | refine ⟨_, ?_, fun _ _ h => h⟩ | refine ⟨_, ?_, fun _ _ _ h => h⟩ | refine ⟨_, ?_, fun _ _ _ _ h => h⟩ | refine ⟨_, ?_, fun _ _ _ _ _ h => h⟩ | fail)
    · exact ⟨y / 65536, n + 16, by congr 1, rfl, by omega, by omega, by omega, div_step (k := 16) a3, rfl⟩
    · exact ⟨y, n, rfl, rfl, by omega, by omega, by omega, a3, rfl⟩
  rintro _ _ _ w2 ⟨y, n, rfl, rfl, a0, a1, a2, a3, rfl⟩
  refine ⟨fun v c w' => ∃ (y n : Nat), v = .int .u64 y ∧ c = .int .i64 n ∧ 0 < y ∧ y < 256 ∧ n ≤ 56 ∧ x / 2 ^ n = y ∧ w' = w2, ?_, ?_⟩
  · repeat' (first | ((first | refine pN_lss_s ?_ ?_ | refine pA_lss_s ?_ ?_ | refine pN_lss_sb ?_ ?_ | refine pN_leq_s ?_ ?_ | refine pA_leq_s ?_ ?_ | refine pN_leq_sb ?_ ?_ | refine pN_gtr_s ?_ ?_ | refine pA_gtr_s ?_ ?_ | refine pN_gtr_sb ?_ ?_ | refine pN_geq_s ?_ ?_ | refine pA_geq_s ?_ ?_ | refine pN_geq_sb ?_ ?_) <;> intro hc <;> try (exfalso; omega)) | ((first | refine pN_eql_s ?_ ?_ | refine pA_eql_s ?_ ?_ | refine pN_eql_sb ?_ ?_ | refine pA_eql_sb ?_ ?_ | refine pN_eql_ss ?_ ?_ | refine pA_eql_ss ?_ ?_ | refine pN_neq_s ?_ ?_ | refine pA_neq_s ?_ ?_ | refine pN_neq_sb ?_ ?_ | refine pA_neq_sb ?_ ?_ | refine pN_neq_ss ?_ ?_ | refine pA_neq_ss ?_ ?_) <;> intro hc <;> try (exfalso; first | omega | exact hc rfl | exact hc (by assumption) | exact absurd hc (by assumption))) | refine pIf_t ?_ | refine pIf_f ?_ | refine gA_go (by rfl) ?_ | refine gA_no (by rfl) ?_ | refine pGd_go (by rfl) ?_ | refine pGd_no (by rfl) ?_ | refine pN_tob ?_ | refine pL_tob ?_ | refine pN_ofb ?_ | refine pL_ofb ?_ | refine pN_l hS (by first | rfl | assumption) ?_ | refine pL_l hS (by first | rfl | assumption) ?_ | refine pN_ld1 ha hS ?_ | refine pL_ld1 ha hS ?_ | refine pN_ld_at ha hS (by rfl) ?_ | refine pL_ld_at ha hS (by rfl) ?_ | refine pN_fa ha (by rfl) fun a ha => ?_ | refine pA_fa ha (by rfl) fun a ha => ?_ | refine pN_la hS (by rfl) ?_ | refine pL_la hS (by rfl) ?_ | refine pL_r hS (by rfl) ?_ | refine pL_ra hS (by rfl) ?_ | (refine pN_s hS (by first | exact Nat.le_of_ble_eq_true rfl | assumption) (by rfl) ?_; clear hS; intro w hS; try simp only [List.set_cons_zero, List.set_cons_succ] at hS) | (refine pN_sa hS (by rfl) (by rfl) (by rfl) ?_; clear hS; intro w hS; try dsimp only at hS) | (refine pDr_go hS ?_; clear hS; intro w hS) | (refine pN_nz hS ?_; clear hS; intro a w hS) | (refine pN_bx hS (by rfl) ?_; clear hS; intro a w hS) | refine ⟨trivial, ?_⟩ | refine ⟨⟨(by first | exact run_l hS (by first | rfl | assumption) | exact run_st hS (by first | rfl | omega) | exact run_ld1 ha hS | exact fun _ => run_l hS (by rfl) | exact fun _ => run_st hS (by first | rfl | omega) | exact fun _ => run_ld1 ha hS | exact fun h => Bool.noConfusion h), trivial⟩, ?_⟩ | refine ⟨⟨(by first | exact run_l hS (by first | rfl | assumption) | exact run_st hS (by first | rfl | omega) | exact run_ld1 ha hS | exact fun _ => run_l hS (by rfl) | exact fun _ => run_st hS (by first | rfl | omega) | exact fun _ => run_ld1 ha hS | exact fun h => Bool.noConfusion h), (by first | exact run_l hS (by first | rfl | assumption) | exact run_st hS (by first | rfl | omega) | exact run_ld1 ha hS | exact fun _ => run_l hS (by rfl) | exact fun _ => run_st hS (by first | rfl | omega) | exact fun _ => run_ld1 ha hS | exact fun h => Bool.noConfusion h), trivial⟩, ?_⟩ | refine ⟨⟨(by first | exact run_l hS (by first | rfl | assumption) | exact run_st hS (by first | rfl | omega) | exact run_ld1 ha hS | exact fun _ => run_l hS (by rfl) | exact fun _ => run_st hS (by first | rfl | omega) | exact fun _ => run_ld1 ha hS | exact fun h => Bool.noConfusion h), (by first | exact run_l hS (by first | rfl | assumption) | exact run_st hS (by first | rfl | omega) | exact run_ld1 ha hS | exact fun _ => run_l hS (by rfl) | exact fun _ => run_st hS (by first | rfl | omega) | exact fun _ => run_ld1 ha hS | exact fun h => Bool.noConfusion h), (by first | exact run_l hS (by first | rfl | assumption) | exact run_st hS (by first | rfl | omega) | exact run_ld1 ha hS | exact fun _ => run_l hS (by rfl) | exact fun _ => run_st hS (by first | rfl | omega) | exact fun _ => run_ld1 ha hS | exact fun h => Bool.noConfusion h), trivial⟩, ?_⟩ | refine pN_ixk hS _ (by first | rfl | (exact (Int.toNat_of_nonneg (by omega)).symm)) (by first | rfl | omega | simpa only [go_sem] using True.intro | (simp only [go_sem]; omega)) (by assumption) fun a ha hel => ?_ | refine pA_ixk hS _ (by first | rfl | (exact (Int.toNat_of_nonneg (by omega)).symm)) (by first | rfl | omega | simpa only [go_sem] using True.intro | (simp only [go_sem]; omega)) (by assumption) fun a ha hel => ?_ | refine pN_ix hS _ (by first | rfl | (exact (Int.toNat_of_nonneg (by omega)).symm)) (by first | rfl | omega | simpa only [go_sem] using True.intro | (simp only [go_sem]; omega)) (by first | omega | (simp only [go_sem]; omega)) fun a x hx ha hel => ?_ | refine pA_ix hS _ (by first | rfl | (exact (Int.toNat_of_nonneg (by omega)).symm)) (by first | rfl | omega | simpa only [go_sem] using True.intro | (simp only [go_sem]; omega)) (by first | omega | (simp only [go_sem]; omega)) fun a x hx ha hel => ?_ | (refine pN_sr hel hS (by rfl) (by rfl) (by first | omega | (simp only [go_sem]; omega)) ?_; clear hS; intro w hS) | (refine pN_b1 hS (by rfl) (by decide) ?_; clear hS; intro s w hS) | (refine pN_b0 hS ?_; clear hS; intro s w hS) | (refine pN_app hS (by first | rfl | omega | simpa only [go_sem] using True.intro | (simp only [go_sem]; omega)) (by first | rfl | omega | simpa only [go_sem] using True.intro | (simp only [go_sem]; omega)) (by first | omega | (simp only [go_sem]; omega)) ?_; clear hS; intro s w hS) | (refine pN_app0 hS (by first | rfl | omega | simpa only [go_sem] using True.intro | (simp only [go_sem]; omega)) (by first | omega | (simp only [go_sem]; omega)) ?_; clear hS; intro s w hS) | (refine pN_mk hS _ (by first | rfl | (exact (Int.toNat_of_nonneg (by omega)).symm)) (by first | omega | (simp only [go_sem]; omega)) ?_; clear hS; intro s w hS) | (refine pN_mk0 hS _ (by first | rfl | (exact (Int.toNat_of_nonneg (by omega)).symm)) (by first | omega | (simp only [go_sem]; omega)) ?_; clear hS; intro s w hS) | refine pN_st hS (by first | rfl | omega | simpa only [go_sem] using True.intro | (simp only [go_sem]; omega)) ?_ | refine pL_st hS (by first | rfl | omega | simpa only [go_sem] using True.intro | (simp only [go_sem]; omega)) ?_ | refine pN_fn ?_ | refine pN_via (by (intro K; simp (disch := omega) only [go_sem, pN_min, pN_max, w_u32, w_u64, Option.isNone_some, Option.isNone_none]; (try simp only [wrap_u32, wrap_u64]); rfl)) ?_ | refine pA_via (by (intro K; simp (disch := omega) only [go_sem, pN_min, pN_max, w_u32, w_u64, Option.isNone_some, Option.isNone_none]; (try simp only [wrap_u32, wrap_u64]); rfl)) ?_ | refine pL_via (by (intro K; simp (disch := omega) only [go_sem, pN_min, pN_max, w_u32, w_u64, Option.isNone_some, Option.isNone_none]; (try simp only [wrap_u32, wrap_u64]); rfl)) ?_ | refine ⟨_, ?_, fun _ _ h => h⟩ | refine ⟨_, ?_, fun _ _ _ h => h⟩ | refine ⟨_, ?_, fun _ _ _ _ h => h⟩ | refine ⟨_, ?_, fun _ _ _ _ _ h => h⟩ | fail)
    · exact ⟨y / 256, n + 8, by congr 1, rfl, by omega, by omega, by omega, div_step (k := 8) a3, rfl⟩
    · exact ⟨y, n, rfl, rfl, by omega, by omega, by omega, a3, rfl⟩
  rintro _ _ _ w3 ⟨y, n, rfl, rfl, a0, a1, a2, a3, rfl⟩
  refine pN_tob ?_
  refine pN_len8 (by kernel_rfl) a1 a0 fun b hb => ?_
  have h5 := log2_of_div a3 a0
  have h6 : x.log2 < 64 := (Nat.log2_lt (by omega)).2 (by omega)
  repeat' (first | ((first | refine pN_lss_s ?_ ?_ | refine pA_lss_s ?_ ?_ | refine pN_lss_sb ?_ ?_ | refine pN_leq_s ?_ ?_ | refine pA_leq_s ?_ ?_ | refine pN_leq_sb ?_ ?_ | refine pN_gtr_s ?_ ?_ | refine pA_gtr_s ?_ ?_ | refine pN_gtr_sb ?_ ?_ | refine pN_geq_s ?_ ?_ | refine pA_geq_s ?_ ?_ | refine pN_geq_sb ?_ ?_) <;> intro hc <;> try (exfalso; omega)) | ((first | refine pN_eql_s ?_ ?_ | refine pA_eql_s ?_ ?_ | refine pN_eql_sb ?_ ?_ | refine pA_eql_sb ?_ ?_ | refine pN_eql_ss ?_ ?_ | refine pA_eql_ss ?_ ?_ | refine pN_neq_s ?_ ?_ | refine pA_neq_s ?_ ?_ | refine pN_neq_sb ?_ ?_ | refine pA_neq_sb ?_ ?_ | refine pN_neq_ss ?_ ?_ | refine pA_neq_ss ?_ ?_) <;> intro hc <;> try (exfalso; first | omega | exact hc rfl | exact hc (by assumption) | exact absurd hc (by assumption))) | refine pIf_t ?_ | refine pIf_f ?_ | refine gA_go (by rfl) ?_ | refine gA_no (by rfl) ?_ | refine pGd_go (by rfl) ?_ | refine pGd_no (by rfl) ?_ | refine pN_tob ?_ | refine pL_tob ?_ | refine pN_ofb ?_ | refine pL_ofb ?_ | refine pN_l hS (by first | rfl | assumption) ?_ | refine pL_l hS (by first | rfl | assumption) ?_ | refine pN_ld1 ha hS ?_ | refine pL_ld1 ha hS ?_ | refine pN_ld_at ha hS (by rfl) ?_ | refine pL_ld_at ha hS (by rfl) ?_ | refine pN_fa ha (by rfl) fun a ha => ?_ | refine pA_fa ha (by rfl) fun a ha => ?_ | refine pN_la hS (by rfl) ?_ | refine pL_la hS (by rfl) ?_ | refine pL_r hS (by rfl) ?_ | refine pL_ra hS (by rfl) ?_ | (refine pN_s hS (by first | exact Nat.le_of_ble_eq_true rfl | assumption) (by rfl) ?_; clear hS; intro w hS; try simp only [List.set_cons_zero, List.set_cons_succ] at hS) | (refine pN_sa hS (by rfl) (by rfl) (by rfl) ?_; clear hS; intro w hS; try dsimp only at hS) | (refine pDr_go hS ?_; clear hS; intro w hS) | (refine pN_nz hS ?_; clear hS; intro a w hS) | (refine pN_bx hS (by rfl) ?_; clear hS; intro a w hS) | refine ⟨trivial, ?_⟩ | refine ⟨⟨(by first | exact run_l hS (by first | rfl | assumption) | exact run_st hS (by first | rfl | omega) | exact run_ld1 ha hS | exact fun _ => run_l hS (by rfl) | exact fun _ => run_st hS (by first | rfl | omega) | exact fun _ => run_ld1 ha hS | exact fun h => Bool.noConfusion h), trivial⟩, ?_⟩ | refine ⟨⟨(by first | exact run_l hS (by first | rfl | assumption) | exact run_st hS (by first | rfl | omega) | exact run_ld1 ha hS | exact fun _ => run_l hS (by rfl) | exact fun _ => run_st hS (by first | rfl | omega) | exact fun _ => run_ld1 ha hS | exact fun h => Bool.noConfusion h), (by first | exact run_l hS (by first | rfl | assumption) | exact run_st hS (by first | rfl | omega) | exact run_ld1 ha hS | exact fun _ => run_l hS (by rfl) | exact fun _ => run_st hS (by first | rfl | omega) | exact fun _ => run_ld1 ha hS | exact fun h => Bool.noConfusion h), trivial⟩, ?_⟩ | refine ⟨⟨(by first | exact run_l hS (by first | rfl | assumption) | exact run_st hS (by first | rfl | omega) | exact run_ld1 ha hS | exact fun _ => run_l hS (by rfl) | exact fun _ => run_st hS (by first | rfl | omega) | exact fun _ => run_ld1 ha hS | exact fun h => Bool.noConfusion h), (by first | exact run_l hS (by first | rfl | assumption) | exact run_st hS (by first | rfl | omega) | exact run_ld1 ha hS | exact fun _ => run_l hS (by rfl) | exact fun _ => run_st hS (by first | rfl | omega) | exact fun _ => run_ld1 ha hS | exact fun h => Bool.noConfusion h), (by first | exact run_l hS (by first | rfl | assumption) | exact run_st hS (by first | rfl | omega) | exact run_ld1 ha hS | exact fun _ => run_l hS (by rfl) | exact fun _ => run_st hS (by first | rfl | omega) | exact fun _ => run_ld1 ha hS | exact fun h => Bool.noConfusion h), trivial⟩, ?_⟩ | refine pN_ixk hS _ (by first | rfl | (exact (Int.toNat_of_nonneg (by omega)).symm)) (by first | rfl | omega | simpa only [go_sem] using True.intro | (simp only [go_sem]; omega)) (by assumption) fun a ha hel => ?_ | refine pA_ixk hS _ (by first | rfl | (exact (Int.toNat_of_nonneg (by omega)).symm)) (by first | rfl | omega | simpa only [go_sem] using True.intro | (simp only [go_sem]; omega)) (by assumption) fun a ha hel => ?_ | refine pN_ix hS _ (by first | rfl | (exact (Int.toNat_of_nonneg (by omega)).symm)) (by first | rfl | omega | simpa only [go_sem] using True.intro | (simp only [go_sem]; omega)) (by first | omega | (simp only [go_sem]; omega)) fun a x hx ha hel => ?_ | refine pA_ix hS _ (by first | rfl | (exact (Int.toNat_of_nonneg (by omega)).symm)) (by first | rfl | omega | simpa only [go_sem] using True.intro | (simp only [go_sem]; omega)) (by first | omega | (simp only [go_sem]; omega)) fun a x hx ha hel => ?_ | (refine pN_sr hel hS (by rfl) (by rfl) (by first | omega | (simp only [go_sem]; omega)) ?_; clear hS; intro w hS) | (refine pN_b1 hS (by rfl) (by decide) ?_; clear hS; intro s w hS) | (refine pN_b0 hS ?_; clear hS; intro s w hS) | (refine pN_app hS (by first | rfl | omega | simpa only [go_sem] using True.intro | (simp only [go_sem]; omega)) (by first | rfl | omega | simpa only [go_sem] using True.intro | (simp only [go_sem]; omega)) (by first | omega | (simp only [go_sem]; omega)) ?_; clear hS; intro s w hS) | (refine pN_app0 hS (by first | rfl | omega | simpa only [go_sem] using True.intro | (simp only [go_sem]; omega)) (by first | omega | (simp only [go_sem]; omega)) ?_; clear hS; intro s w hS) | (refine pN_mk hS _ (by first | rfl | (exact (Int.toNat_of_nonneg (by omega)).symm)) (by first | omega | (simp only [go_sem]; omega)) ?_; clear hS; intro s w hS) | (refine pN_mk0 hS _ (by first | rfl | (exact (Int.toNat_of_nonneg (by omega)).symm)) (by first | omega | (simp only [go_sem]; omega)) ?_; clear hS; intro s w hS) | refine pN_st hS (by first | rfl | omega | simpa only [go_sem] using True.intro | (simp only [go_sem]; omega)) ?_ | refine pL_st hS (by first | rfl | omega | simpa only [go_sem] using True.intro | (simp only [go_sem]; omega)) ?_ | refine pN_fn ?_ | refine pN_via (by (intro K; simp (disch := omega) only [go_sem, pN_min, pN_max, w_u32, w_u64, Option.isNone_some, Option.isNone_none]; (try simp only [wrap_u32, wrap_u64]); rfl)) ?_ | refine pA_via (by (intro K; simp (disch := omega) only [go_sem, pN_min, pN_max, w_u32, w_u64, Option.isNone_some, Option.isNone_none]; (try simp only [wrap_u32, wrap_u64]); rfl)) ?_ | refine pL_via (by (intro K; simp (disch := omega) only [go_sem, pN_min, pN_max, w_u32, w_u64, Option.isNone_some, Option.isNone_none]; (try simp only [wrap_u32, wrap_u64]); rfl)) ?_ | refine ⟨_, ?_, fun _ _ h => h⟩ | refine ⟨_, ?_, fun _ _ _ h => h⟩ | refine ⟨_, ?_, fun _ _ _ _ h => h⟩ | refine ⟨_, ?_, fun _ _ _ _ _ h => h⟩ | fail)
  have e : (n : Int) + (b.toNat : Int) = (x.log2 + 1 : Nat) := by omega
  rw [e]
  exact hQ
theorem BLen_ok (x : Nat) (h0 : 0 < x) (h1 : x < 9223372036854775808) (hQ : Q (.int .i64 (x.log2 + 1 : Nat)) w) : Calls Tryz.prog 175 #[.int .u64 x] w (retP Q) := by
  refine math_bits_Len.calls ?_
  unfold math_bits_Len.F
  repeat' (first | ((first | refine pN_lss_s ?_ ?_ | refine pA_lss_s ?_ ?_ | refine pN_lss_sb ?_ ?_ | refine pN_leq_s ?_ ?_ | refine pA_leq_s ?_ ?_ | refine pN_leq_sb ?_ ?_ | refine pN_gtr_s ?_ ?_ | refine pA_gtr_s ?_ ?_ | refine pN_gtr_sb ?_ ?_ | refine pN_geq_s ?_ ?_ | refine pA_geq_s ?_ ?_ | refine pN_geq_sb ?_ ?_) <;> intro hc <;> try (exfalso; omega)) | ((first | refine pN_eql_s ?_ ?_ | refine pA_eql_s ?_ ?_ | refine pN_eql_sb ?_ ?_ | refine pA_eql_sb ?_ ?_ | refine pN_eql_ss ?_ ?_ | refine pA_eql_ss ?_ ?_ | refine pN_neq_s ?_ ?_ | refine pA_neq_s ?_ ?_ | refine pN_neq_sb ?_ ?_ | refine pA_neq_sb ?_ ?_ | refine pN_neq_ss ?_ ?_ | refine pA_neq_ss ?_ ?_) <;> intro hc <;> try (exfalso; first | omega | exact hc rfl | exact hc (by assumption) | exact absurd hc (by assumption))) | refine pIf_t ?_ | refine pIf_f ?_ | refine gA_go (by rfl) ?_ | refine gA_no (by rfl) ?_ | refine pGd_go (by rfl) ?_ | refine pGd_no (by rfl) ?_ | refine pN_tob ?_ | refine pL_tob ?_ | refine pN_ofb ?_ | refine pL_ofb ?_ | refine pN_l hS (by first | rfl | assumption) ?_ | refine pL_l hS (by first | rfl | assumption) ?_ | refine pN_ld1 ha hS ?_ | refine pL_ld1 ha hS ?_ | refine pN_ld_at ha hS (by rfl) ?_ | refine pL_ld_at ha hS (by rfl) ?_ | refine pN_fa ha (by rfl) fun a ha => ?_ | refine pA_fa ha (by rfl) fun a ha => ?_ | refine pN_la hS (by rfl) ?_ | refine pL_la hS (by rfl) ?_ | refine pL_r hS (by rfl) ?_ | refine pL_ra hS (by rfl) ?_ | (refine pN_s hS (by first | exact Nat.le_of_ble_eq_true rfl | assumption) (by rfl) ?_; clear hS; intro w hS; try simp only [List.set_cons_zero, List.set_cons_succ] at hS) | (refine pN_sa hS (by rfl) (by rfl) (by rfl) ?_; clear hS; intro w hS; try dsimp only at hS) | (refine pDr_go hS ?_; clear hS; intro w hS) | (refine pN_nz hS ?_; clear hS; intro a w hS) | (refine pN_bx hS (by rfl) ?_; clear hS; intro a w hS) | refine ⟨trivial, ?_⟩ | refine ⟨⟨(by first | exact run_l hS (by first | rfl | assumption) | exact run_st hS (by first | rfl | omega) | exact run_ld1 ha hS | exact fun _ => run_l hS (by rfl) | exact fun _ => run_st hS (by first | rfl | omega) | exact fun _ => run_ld1 ha hS | exact fun h => Bool.noConfusion h), trivial⟩, ?_⟩ | refine ⟨⟨(by first | exact run_l hS (by first | rfl | assumption) | exact run_st hS (by first | rfl | omega) | exact run_ld1 ha hS | exact fun _ => run_l hS (by rfl) | exact fun _ => run_st hS (by first | rfl | omega) | exact fun _ => run_ld1 ha hS | exact fun h => Bool.noConfusion h), (by first | exact run_l hS (by first | rfl | assumption) | exact run_st hS (by first | rfl | omega) | exact run_ld1 ha hS | exact fun _ => run_l hS (by rfl) | exact fun _ => run_st hS (by first | rfl | omega) | exact fun _ => run_ld1 ha hS | exact fun h => Bool.noConfusion h), trivial⟩, ?_⟩ | refine ⟨⟨(by first | exact run_l hS (by first | rfl | assumption) | exact run_st hS (by first | rfl | omega) | exact run_ld1 ha hS | exact fun _ => run_l hS (by rfl) | exact fun _ => run_st hS (by first | rfl | omega) | exact fun _ => run_ld1 ha hS | exact fun h => Bool.noConfusion h), (by first | exact run_l hS (by first | rfl | assumption) | exact run_st hS (by first | rfl | omega) | exact run_ld1 ha hS | exact fun _ => run_l hS (by rfl) | exact fun _ => run_st hS (by first | rfl | omega) | exact fun _ => run_ld1 ha hS | exact fun h => Bool.noConfusion h), (by first | exact run_l hS (by first | rfl | assumption) | exact run_st hS (by first | rfl | omega) | exact run_ld1 ha hS | exact fun _ => run_l hS (by rfl) | exact fun _ => run_st hS (by first | rfl | omega) | exact fun _ => run_ld1 ha hS | exact fun h => Bool.noConfusion h), trivial⟩, ?_⟩ | refine pN_ixk hS _ (by first | rfl | (exact (Int.toNat_of_nonneg (by omega)).symm)) (by first | rfl | omega | simpa only [go_sem] using True.intro | (simp only [go_sem]; omega)) (by assumption) fun a ha hel => ?_ | refine pA_ixk hS _ (by first | rfl | (exact (Int.toNat_of_nonneg (by omega)).symm)) (by first | rfl | omega | simpa only [go_sem] using True.intro | (simp only [go_sem]; omega)) (by assumption) fun a ha hel => ?_ | refine pN_ix hS _ (by first | rfl | (exact (Int.toNat_of_nonneg (by omega)).symm)) (by first | rfl | omega | simpa only [go_sem] using True.intro | (simp only [go_sem]; omega)) (by first | omega | (simp only [go_sem]; omega)) fun a x hx ha hel => ?_ | refine pA_ix hS _ (by first | rfl | (exact (Int.toNat_of_nonneg (by omega)).symm)) (by first | rfl | omega | simpa only [go_sem] using True.intro | (simp only [go_sem]; omega)) (by first | omega | (simp only [go_sem]; omega)) fun a x hx ha hel => ?_ | (refine pN_sr hel hS (by rfl) (by rfl) (by first | omega | (simp only [go_sem]; omega)) ?_; clear hS; intro w hS) | (refine pN_b1 hS (by rfl) (by decide) ?_; clear hS; intro s w hS) | (refine pN_b0 hS ?_; clear hS; intro s w hS) | (refine pN_app hS (by first | rfl | omega | simpa only [go_sem] using True.intro | (simp only [go_sem]; omega)) (by first | rfl | omega | simpa only [go_sem] using True.intro | (simp only [go_sem]; omega)) (by first | omega | (simp only [go_sem]; omega)) ?_; clear hS; intro s w hS) | (refine pN_app0 hS (by first | rfl | omega | simpa only [go_sem] using True.intro | (simp only [go_sem]; omega)) (by first | omega | (simp only [go_sem]; omega)) ?_; clear hS; intro s w hS) | (refine pN_mk hS _ (by first | rfl | (exact (Int.toNat_of_nonneg (by omega)).symm)) (by first | omega | (simp only [go_sem]; omega)) ?_; clear hS; intro s w hS) | (refine pN_mk0 hS _ (by first | rfl | (exact (Int.toNat_of_nonneg (by omega)).symm)) (by first | omega | (simp only [go_sem]; omega)) ?_; clear hS; intro s w hS) | refine pN_st hS (by first | rfl | omega | simpa only [go_sem] using True.intro | (simp only [go_sem]; omega)) ?_ | refine pL_st hS (by first | rfl | omega | simpa only [go_sem] using True.intro | (simp only [go_sem]; omega)) ?_ | refine pN_fn ?_ | refine pN_via (by (intro K; simp (disch := omega) only [go_sem, pN_min, pN_max, w_u32, w_u64, Option.isNone_some, Option.isNone_none]; (try simp only [wrap_u32, wrap_u64]); rfl)) ?_ | refine pA_via (by (intro K; simp (disch := omega) only [go_sem, pN_min, pN_max, w_u32, w_u64, Option.isNone_some, Option.isNone_none]; (try simp only [wrap_u32, wrap_u64]); rfl)) ?_ | refine pL_via (by (intro K; simp (disch := omega) only [go_sem, pN_min, pN_max, w_u32, w_u64, Option.isNone_some, Option.isNone_none]; (try simp only [wrap_u32, wrap_u64]); rfl)) ?_ | refine ⟨_, ?_, fun _ _ h => h⟩ | refine ⟨_, ?_, fun _ _ _ h => h⟩ | refine ⟨_, ?_, fun _ _ _ _ h => h⟩ | refine ⟨_, ?_, fun _ _ _ _ _ h => h⟩ | fail)
  refine pc_math_bits_Len64 (Len64_ok x h0 h1 ?_)
  exact hQ
end

end Go.Proofs.YtbgnnjfpiblkmaaGreatDoor

namespace Go.Proofs.YtbgnnjfpiblkmaaGreatDoor
open Go
set_option linter.unusedSimpArgs false
set_option linter.unnecessarySimpa false
set_option linter.unusedSectionVars false
set_option linter.unusedVariables false
attribute [local irreducible] oMv oV oU oCall oCallV oBi oBin oUn oLoad oStore oNil oFld oField oIdx oIndex oPick oAlloc oBox oBuild oBs oConv oMk oSl oExt oFn oIface oMap oLook oMapUp oRange oNext oEntry oInv oAssert oPanic oRes pN pA pL pDr pIf gA pGd

instance ar_reps : Ar Tryz.prog 67 4 := ⟨_, Tryz.underlying67, Tryz.sizeOf3, Tryz.isAgg3⟩

theorem two_le' {a b : Nat} (h : a ≤ b) : (2 : Int) ^ a ≤ 2 ^ b := by exact_mod_cast Nat.pow_le_pow_right (by omega) h
theorem or_2_0 : (IntKind.i64.wrap ((BitVec.ofInt IntKind.i64.bits 2 ||| BitVec.ofInt IntKind.i64.bits 0).toNat)) = 2 := by decide +kernel
theorem or_2_1 : (IntKind.i64.wrap ((BitVec.ofInt IntKind.i64.bits 2 ||| BitVec.ofInt IntKind.i64.bits 1).toNat)) = 3 := by decide +kernel

section
variable {E w W : World} {M N : List HA} {Q : Value → World → Prop} {s : Z.St} {y : Z.Y}

theorem isDist_ok (d : Int) (hQ : Q (.bool (decide (Z.isDist d))) w) : Calls Tryz.prog 137 #[.int .i64 d] w (retP Q) := by
  refine state_isDist.calls ?_
  unfold state_isDist.F
  repeat' (first | ((first | refine pN_leq_s ?_ ?_ | refine pN_geq_s ?_ ?_) <;> intro hc <;> try (exfalso; omega)) | refine pGd_go (by rfl) ?_ | refine pGd_no (by rfl) ?_ | refine pN_via (by (intro K; simp (disch := omega) only [go_sem, pN_min, pN_max, w_u32, w_u64, Option.isNone_some, Option.isNone_none]; (try simp only [wrap_u32, wrap_u64]); rfl)) ?_ | fail)
  · rw [decide_eq_true (show Z.isDist d from ⟨by omega, by omega⟩)] at hQ; exact hQ
  · rw [decide_eq_false (show ¬ Z.isDist d from fun h => by unfold Z.isDist at h; omega)] at hQ; exact hQ
  · rw [decide_eq_false (show ¬ Z.isDist d from fun h => by unfold Z.isDist at h; omega)] at hQ; exact hQ

theorem isLen_ok (d : Int) (hQ : Q (.bool (decide (Z.isLen d))) w) : Calls Tryz.prog 136 #[.int .i64 d] w (retP Q) := by
  refine state_isLen.calls ?_
  unfold state_isLen.F
  repeat' (first | ((first | refine pN_leq_s ?_ ?_ | refine pN_geq_s ?_ ?_) <;> intro hc <;> try (exfalso; omega)) | refine pGd_go (by rfl) ?_ | refine pGd_no (by rfl) ?_ | refine pN_via (by (intro K; simp (disch := omega) only [go_sem, pN_min, pN_max, w_u32, w_u64, Option.isNone_some, Option.isNone_none]; (try simp only [wrap_u32, wrap_u64]); rfl)) ?_ | fail)
  · rw [decide_eq_true (show Z.isLen d from ⟨by omega, by omega⟩)] at hQ; exact hQ
  · rw [decide_eq_false (show ¬ Z.isLen d from fun h => by unfold Z.isLen at h; omega)] at hQ; exact hQ
  · rw [decide_eq_false (show ¬ Z.isLen d from fun h => by unfold Z.isLen at h; omega)] at hQ; exact hQ

theorem right_ok (hS : Sat E w M) (hr : s.Right) (hQ : ∀ w, Sat E w M → Q (.bool true) w) : Calls Tryz.prog 135 #[.agg #[.int .i64 s.num, .int .i64 s.r0, .int .i64 s.r1, .int .i64 s.r2, .int .i64 s.r3]] w (retP Q) := by
  refine state_State_right.calls ?_
  unfold state_State_right.F
  have hn := hr.num
  repeat' (first | (refine pN_bx hS (by rfl) ?_; clear hS; intro a w hS) | refine pN_via (by (intro K; simp (disch := omega) only [go_sem, pN_min, pN_max, w_u32, w_u64, Option.isNone_some, Option.isNone_none]; (try simp only [wrap_u32, wrap_u64]); rfl)) ?_ | fail)
  refine pN_la_at hS [.int .i64 s.r0, .int .i64 s.r1, .int .i64 s.r2, .int .i64 s.r3] rfl rfl ?_
  refine ⟨fun v w => ∃ i : Nat, v = .int .i64 i ∧ i ≤ 4 ∧ Sat E w (cel a ⟨100, [.int .i64 s.num, .int .i64 s.r0, .int .i64 s.r1, .int .i64 s.r2, .int .i64 s.r3]⟩ :: M), fun v _ => 4 - (RowKit.intOf v).toNat, ⟨0, rfl, by omega, hS⟩, ?_⟩
  clear hS
  rintro _ _ w ⟨i, rfl, hi, hS⟩
  have d0 : decide (Z.isDist s.r0) = true := decide_eq_true hr.d0
  have d1 : decide (Z.isDist s.r1) = true := decide_eq_true hr.d1
  have d2 : decide (Z.isDist s.r2) = true := decide_eq_true hr.d2
  have d3 : decide (Z.isDist s.r3) = true := decide_eq_true hr.d3
  have h4 : i = 0 ∨ i = 1 ∨ i = 2 ∨ i = 3 ∨ i = 4 := by omega
  rcases h4 with rfl | rfl | rfl | rfl | rfl
  · repeat' (first | refine pN_aix _ (by first | rfl | omega) (by omega) (by rfl) ?_ | (refine pc_state_isDist (isDist_ok _ ?_); first | rw [d0] | rw [d1] | rw [d2] | rw [d3]) | (refine pN_lss_s ?_ ?_ <;> intro hc <;> try (exfalso; omega)) | refine pIf_t ?_ | refine pIf_f ?_ | refine pN_via (by (intro K; simp (disch := omega) only [go_sem, pN_min, pN_max, w_u32, w_u64, Option.isNone_some, Option.isNone_none]; (try simp only [wrap_u32, wrap_u64]); rfl)) ?_ | fail)
    exact ⟨⟨1, rfl, by omega, hS⟩, by simp [RowKit.intOf]⟩
  · repeat' (first | refine pN_aix _ (by first | rfl | omega) (by omega) (by rfl) ?_ | (refine pc_state_isDist (isDist_ok _ ?_); first | rw [d0] | rw [d1] | rw [d2] | rw [d3]) | (refine pN_lss_s ?_ ?_ <;> intro hc <;> try (exfalso; omega)) | refine pIf_t ?_ | refine pIf_f ?_ | refine pN_via (by (intro K; simp (disch := omega) only [go_sem, pN_min, pN_max, w_u32, w_u64, Option.isNone_some, Option.isNone_none]; (try simp only [wrap_u32, wrap_u64]); rfl)) ?_ | fail)
    exact ⟨⟨2, rfl, by omega, hS⟩, by simp [RowKit.intOf]⟩
  · repeat' (first | refine pN_aix _ (by first | rfl | omega) (by omega) (by rfl) ?_ | (refine pc_state_isDist (isDist_ok _ ?_); first | rw [d0] | rw [d1] | rw [d2] | rw [d3]) | (refine pN_lss_s ?_ ?_ <;> intro hc <;> try (exfalso; omega)) | refine pIf_t ?_ | refine pIf_f ?_ | refine pN_via (by (intro K; simp (disch := omega) only [go_sem, pN_min, pN_max, w_u32, w_u64, Option.isNone_some, Option.isNone_none]; (try simp only [wrap_u32, wrap_u64]); rfl)) ?_ | fail)
    exact ⟨⟨3, rfl, by omega, hS⟩, by simp [RowKit.intOf]⟩
  · repeat' (first | refine pN_aix _ (by first | rfl | omega) (by omega) (by rfl) ?_ | (refine pc_state_isDist (isDist_ok _ ?_); first | rw [d0] | rw [d1] | rw [d2] | rw [d3]) | (refine pN_lss_s ?_ ?_ <;> intro hc <;> try (exfalso; omega)) | refine pIf_t ?_ | refine pIf_f ?_ | refine pN_via (by (intro K; simp (disch := omega) only [go_sem, pN_min, pN_max, w_u32, w_u64, Option.isNone_some, Option.isNone_none]; (try simp only [wrap_u32, wrap_u64]); rfl)) ?_ | fail)
    exact ⟨⟨4, rfl, by omega, hS⟩, by simp [RowKit.intOf]⟩
  · repeat' (first | ((first | refine pN_lss_s ?_ ?_ | refine pN_geq_s ?_ ?_) <;> intro hc <;> try (exfalso; omega)) | refine pIf_f ?_ | refine pGd_go (by rfl) ?_ | refine pN_l hS (by first | rfl | assumption) ?_ | refine pN_via (by (intro K; simp (disch := omega) only [go_sem, pN_min, pN_max, w_u32, w_u64, Option.isNone_some, Option.isNone_none]; (try simp only [wrap_u32, wrap_u64]); rfl)) ?_ | fail)
    exact hQ _ hS.to

theorem pN_glo {a : Addr} {v : Value} {t : TypeId} [Sc Tryz.prog t] {K : Value → World → Prop} (hS : Sat E w M) [h : Has (old W) M N] (hc : W.cell? a = some v) (hk : K v w) : pN Tryz.prog (oLoad t (.pointer (some a))) w K :=
  pN_ld Sc.na (Glo.up (W := W) hS hc) hk

set_option maxHeartbeats 1600000 in
theorem Next_in (hG : Glo W) (hS : Sat E w M) [h : Has (old W) M N] (hr : s.Right) (hy : Z.errY y = 0) (hQ : ∀ w, Sat E w M → Q (.tuple #[.agg (s.next y).cells.toArray, .int .i64 0]) w) :
    Calls Tryz.prog 92 #[.agg #[.int .i64 s.num, .int .i64 s.r0, .int .i64 s.r1, .int .i64 s.r2, .int .i64 s.r3], .agg #[.int .i64 y.Kind, bv y.Byte, .int .i64 y.Len, .int .i64 y.Dist]] w (retP Q) := by
  refine state_State_Next.calls ?_
  unfold state_State_Next.F
  have hn := hr.num
  obtain ⟨n, hn2⟩ : ∃ n : Nat, s.num = n := ⟨s.num.toNat, by omega⟩
  have e1 : (s.num).toNat = n := by omega
  have g1 := hG.lit n (by omega)
  have g2 := hG.mat n (by omega)
  have g3 := hG.rep n (by omega)
  have g4 := hG.sht n (by omega)
  rw [← hn2, ← e1] at g1 g2 g3 g4
  clear e1 hn2
  refine pN_bx hS (by rfl) fun x2 w hS => ?_
  refine pN_bx hS (by rfl) fun x3 w hS => ?_
  refine pN_nz hS fun x4 w hS => ?_
  refine pN_la hS (by rfl) ?_
  refine pc_state_State_right (right_ok hS hr fun w hS => ?_)
  repeat' (first | refine pIf_f ?_ | refine pN_via (by (intro K; simp (disch := omega) only [go_sem, pN_min, pN_max, w_u32, w_u64, Option.isNone_some, Option.isNone_none]; (try simp only [wrap_u32, wrap_u64]); rfl)) ?_ | fail)
  refine ⟨fun w => Sat E w (cel x4 ⟨100, [.int .i64 0, .int .i64 0, .int .i64 0, .int .i64 0, .int .i64 0]⟩ :: cel x3 ⟨48, [.int .i64 y.Kind, bv y.Byte, .int .i64 y.Len, .int .i64 y.Dist]⟩ :: cel x2 ⟨100, (s.next y).cells⟩ :: M), ?_, ?_⟩
  · have hk : y.Kind = 1 ∨ y.Kind = 4 ∨ y.Kind = 2 ∨ y.Kind = 3 := by
      unfold Z.errY at hy
      by_cases h1 : y.Kind = 1 ∨ y.Kind = 4
      · rcases h1 with h1 | h1 <;> simp [h1]
      · rw [if_neg h1] at hy
        by_cases h2 : y.Kind = 2
        · simp [h2]
        · rw [if_neg h2] at hy
          by_cases h3 : y.Kind = 3
          · simp [h3]
          · rw [if_neg h3] at hy; omega
    obtain ⟨k, b, l, d⟩ := y
    simp only at hk
    rcases hk with rfl | rfl | rfl | rfl
    all_goals dsimp only at hS ⊢
    · repeat' (first | refine pN_glo hS g1 ?_ | (refine pN_eql_s ?_ ?_ <;> intro hc <;> try (exfalso; first | omega | exact hc rfl | exact hc (by assumption) | exact absurd hc (by assumption))) | refine pIf_t ?_ | refine pN_l hS (by first | rfl | assumption) ?_ | (refine pN_s hS (by first | exact Nat.le_of_ble_eq_true rfl | assumption) (by rfl) ?_; clear hS; intro w hS; try simp only [List.set_cons_zero, List.set_cons_succ] at hS) | refine pN_via (by (intro K; simp (disch := omega) only [go_sem, pN_min, pN_max, w_u32, w_u64, Option.isNone_some, Option.isNone_none]; (try simp only [wrap_u32, wrap_u64]); rfl)) ?_ | fail)
      exact (show Sat E w (cel x2 ⟨100, (s.next ⟨1, b, l, d⟩).cells⟩ :: cel x4 _ :: cel x3 _ :: M) from hS).to
    · repeat' (first | refine pN_glo hS g4 ?_ | (refine pN_eql_s ?_ ?_ <;> intro hc <;> try (exfalso; first | omega | exact hc rfl | exact hc (by assumption) | exact absurd hc (by assumption))) | refine pIf_t ?_ | refine pIf_f ?_ | refine pN_l hS (by first | rfl | assumption) ?_ | (refine pN_s hS (by first | exact Nat.le_of_ble_eq_true rfl | assumption) (by rfl) ?_; clear hS; intro w hS; try simp only [List.set_cons_zero, List.set_cons_succ] at hS) | refine pN_via (by (intro K; simp (disch := omega) only [go_sem, pN_min, pN_max, w_u32, w_u64, Option.isNone_some, Option.isNone_none]; (try simp only [wrap_u32, wrap_u64]); rfl)) ?_ | fail)
      exact (show Sat E w (cel x2 ⟨100, (s.next ⟨4, b, l, d⟩).cells⟩ :: cel x4 _ :: cel x3 _ :: M) from hS).to
    · have hl : Z.isLen l ∧ Z.isDist d := by
        by_cases h : Z.isLen l ∧ Z.isDist d
        · exact h
        · simp [Z.errY, h] at hy
      have l0 : decide (Z.isLen l) = true := decide_eq_true hl.1
      have d0 : decide (Z.isDist d) = true := decide_eq_true hl.2
      repeat' (first | refine pN_glo hS g2 ?_ | (refine pc_state_isLen (isLen_ok _ ?_); rw [l0]) | (refine pc_state_isDist (isDist_ok _ ?_); rw [d0]) | (refine pN_sa_at hS (by rfl) (Nat.le_of_ble_eq_true rfl) (by rfl) ?_; clear hS; intro w hS) | (refine pN_eql_s ?_ ?_ <;> intro hc <;> try (exfalso; first | omega | exact hc rfl | exact hc (by assumption) | exact absurd hc (by assumption))) | refine pIf_t ?_ | refine pIf_f ?_ | refine pGd_go (by rfl) ?_ | refine pN_l hS (by first | rfl | assumption) ?_ | (refine pN_s hS (by first | exact Nat.le_of_ble_eq_true rfl | assumption) (by rfl) ?_; clear hS; intro w hS; try simp only [List.set_cons_zero, List.set_cons_succ] at hS) | refine pN_via (by (intro K; simp (disch := omega) only [go_sem, pN_min, pN_max, w_u32, w_u64, Option.isNone_some, Option.isNone_none]; (try simp only [wrap_u32, wrap_u64]); rfl)) ?_ | fail)
      exact (show Sat E w (cel x2 ⟨100, (s.next ⟨2, b, l, d⟩).cells⟩ :: cel x4 _ :: cel x3 _ :: M) from hS).to
    · have hl : Z.isLen l ∧ 0 ≤ d ∧ d ≤ 3 := by
        by_cases h : Z.isLen l ∧ 0 ≤ d ∧ d ≤ 3
        · exact h
        · simp [Z.errY, h] at hy
      have l0 : decide (Z.isLen l) = true := decide_eq_true hl.1
      have h4 : d = 0 ∨ d = 1 ∨ d = 2 ∨ d = 3 := by omega
      rcases h4 with rfl | rfl | rfl | rfl
      · repeat' (first | refine pN_glo hS g3 ?_ | (refine pc_state_isLen (isLen_ok _ ?_); rw [l0]) | refine pA_aslo 1 rfl (by decide) ?_ | refine pA_ashi _ (by rfl) (by decide) (by decide) ?_ | (refine pN_cpc hS st_sl_int _ (by rfl) (by rfl) (by rfl) (Nat.le_of_ble_eq_true rfl) ?_; clear hS; intro w hS) | ((first | refine pN_lss_s ?_ ?_ | refine pN_gtr_s ?_ ?_) <;> intro hc <;> try (exfalso; omega)) | (refine pN_eql_s ?_ ?_ <;> intro hc <;> try (exfalso; first | omega | exact hc rfl | exact hc (by assumption) | exact absurd hc (by assumption))) | refine pIf_t ?_ | refine pIf_f ?_ | refine pGd_go (by rfl) ?_ | refine pN_l hS (by first | rfl | assumption) ?_ | refine pL_l hS (by first | rfl | assumption) ?_ | (refine pN_s hS (by first | exact Nat.le_of_ble_eq_true rfl | assumption) (by rfl) ?_; clear hS; intro w hS; try simp only [List.set_cons_zero, List.set_cons_succ] at hS) | (refine pDr_go hS ?_; clear hS; intro w hS) | refine ⟨trivial, ?_⟩ | refine pN_via (by (intro K; simp (disch := omega) only [go_sem, pN_min, pN_max, w_u32, w_u64, Option.isNone_some, Option.isNone_none]; (try simp only [wrap_u32, wrap_u64]); rfl)) ?_ | refine pA_via (by (intro K; simp (disch := omega) only [go_sem, pN_min, pN_max, w_u32, w_u64, Option.isNone_some, Option.isNone_none]; (try simp only [wrap_u32, wrap_u64]); rfl)) ?_ | fail)
        exact (show Sat E w (cel x2 ⟨100, (s.next ⟨3, b, l, 0⟩).cells⟩ :: cel x4 _ :: cel x3 _ :: M) from hS).to
      · repeat' (first | refine pN_glo hS g3 ?_ | (refine pc_state_isLen (isLen_ok _ ?_); rw [l0]) | refine pA_aslo 1 rfl (by decide) ?_ | refine pA_ashi _ (by rfl) (by decide) (by decide) ?_ | (refine pN_cpc hS st_sl_int _ (by rfl) (by rfl) (by rfl) (Nat.le_of_ble_eq_true rfl) ?_; clear hS; intro w hS) | ((first | refine pN_lss_s ?_ ?_ | refine pN_gtr_s ?_ ?_) <;> intro hc <;> try (exfalso; omega)) | (refine pN_eql_s ?_ ?_ <;> intro hc <;> try (exfalso; first | omega | exact hc rfl | exact hc (by assumption) | exact absurd hc (by assumption))) | refine pIf_t ?_ | refine pIf_f ?_ | refine pGd_go (by rfl) ?_ | refine pN_l hS (by first | rfl | assumption) ?_ | refine pL_l hS (by first | rfl | assumption) ?_ | (refine pN_s hS (by first | exact Nat.le_of_ble_eq_true rfl | assumption) (by rfl) ?_; clear hS; intro w hS; try simp only [List.set_cons_zero, List.set_cons_succ] at hS) | (refine pDr_go hS ?_; clear hS; intro w hS) | refine ⟨trivial, ?_⟩ | refine pN_via (by (intro K; simp (disch := omega) only [go_sem, pN_min, pN_max, w_u32, w_u64, Option.isNone_some, Option.isNone_none]; (try simp only [wrap_u32, wrap_u64]); rfl)) ?_ | refine pA_via (by (intro K; simp (disch := omega) only [go_sem, pN_min, pN_max, w_u32, w_u64, Option.isNone_some, Option.isNone_none]; (try simp only [wrap_u32, wrap_u64]); rfl)) ?_ | fail)
        exact (show Sat E w (cel x2 ⟨100, (s.next ⟨3, b, l, 1⟩).cells⟩ :: cel x4 _ :: cel x3 _ :: M) from hS).to
      · repeat' (first | refine pN_glo hS g3 ?_ | (refine pc_state_isLen (isLen_ok _ ?_); rw [l0]) | refine pA_aslo 1 rfl (by decide) ?_ | refine pA_ashi _ (by rfl) (by decide) (by decide) ?_ | (refine pN_cpc hS st_sl_int _ (by rfl) (by rfl) (by rfl) (Nat.le_of_ble_eq_true rfl) ?_; clear hS; intro w hS) | ((first | refine pN_lss_s ?_ ?_ | refine pN_gtr_s ?_ ?_) <;> intro hc <;> try (exfalso; omega)) | (refine pN_eql_s ?_ ?_ <;> intro hc <;> try (exfalso; first | omega | exact hc rfl | exact hc (by assumption) | exact absurd hc (by assumption))) | refine pIf_t ?_ | refine pIf_f ?_ | refine pGd_go (by rfl) ?_ | refine pN_l hS (by first | rfl | assumption) ?_ | refine pL_l hS (by first | rfl | assumption) ?_ | (refine pN_s hS (by first | exact Nat.le_of_ble_eq_true rfl | assumption) (by rfl) ?_; clear hS; intro w hS; try simp only [List.set_cons_zero, List.set_cons_succ] at hS) | (refine pDr_go hS ?_; clear hS; intro w hS) | refine ⟨trivial, ?_⟩ | refine pN_via (by (intro K; simp (disch := omega) only [go_sem, pN_min, pN_max, w_u32, w_u64, Option.isNone_some, Option.isNone_none]; (try simp only [wrap_u32, wrap_u64]); rfl)) ?_ | refine pA_via (by (intro K; simp (disch := omega) only [go_sem, pN_min, pN_max, w_u32, w_u64, Option.isNone_some, Option.isNone_none]; (try simp only [wrap_u32, wrap_u64]); rfl)) ?_ | fail)
        exact (show Sat E w (cel x2 ⟨100, (s.next ⟨3, b, l, 2⟩).cells⟩ :: cel x4 _ :: cel x3 _ :: M) from hS).to
      · repeat' (first | refine pN_glo hS g3 ?_ | (refine pc_state_isLen (isLen_ok _ ?_); rw [l0]) | refine pA_aslo 1 rfl (by decide) ?_ | refine pA_ashi _ (by rfl) (by decide) (by decide) ?_ | (refine pN_cpc hS st_sl_int _ (by rfl) (by rfl) (by rfl) (Nat.le_of_ble_eq_true rfl) ?_; clear hS; intro w hS) | ((first | refine pN_lss_s ?_ ?_ | refine pN_gtr_s ?_ ?_) <;> intro hc <;> try (exfalso; omega)) | (refine pN_eql_s ?_ ?_ <;> intro hc <;> try (exfalso; first | omega | exact hc rfl | exact hc (by assumption) | exact absurd hc (by assumption))) | refine pIf_t ?_ | refine pIf_f ?_ | refine pGd_go (by rfl) ?_ | refine pN_l hS (by first | rfl | assumption) ?_ | refine pL_l hS (by first | rfl | assumption) ?_ | (refine pN_s hS (by first | exact Nat.le_of_ble_eq_true rfl | assumption) (by rfl) ?_; clear hS; intro w hS; try simp only [List.set_cons_zero, List.set_cons_succ] at hS) | (refine pDr_go hS ?_; clear hS; intro w hS) | refine ⟨trivial, ?_⟩ | refine pN_via (by (intro K; simp (disch := omega) only [go_sem, pN_min, pN_max, w_u32, w_u64, Option.isNone_some, Option.isNone_none]; (try simp only [wrap_u32, wrap_u64]); rfl)) ?_ | refine pA_via (by (intro K; simp (disch := omega) only [go_sem, pN_min, pN_max, w_u32, w_u64, Option.isNone_some, Option.isNone_none]; (try simp only [wrap_u32, wrap_u64]); rfl)) ?_ | fail)
        exact (show Sat E w (cel x2 ⟨100, (s.next ⟨3, b, l, 3⟩).cells⟩ :: cel x4 _ :: cel x3 _ :: M) from hS).to
  · rintro _ w hS
    repeat' (first | refine pN_la hS (by rfl) ?_ | refine pL_ra hS (by rfl) ?_ | (refine pN_sa hS (by rfl) (by rfl) (by rfl) ?_; clear hS; intro w hS; try dsimp only at hS) | fail)
    exact hQ _ hS.to

set_option maxHeartbeats 1600000 in
theorem Next_no (hS : Sat E w M) (hr : s.Right) (hy : Z.errY y ≠ 0) (hQ : ∀ w, Sat E w M → Q (.tuple #[.agg #[.int .i64 0, .int .i64 0, .int .i64 0, .int .i64 0, .int .i64 0], .int .i64 (Z.errY y)]) w) :
    Calls Tryz.prog 92 #[.agg #[.int .i64 s.num, .int .i64 s.r0, .int .i64 s.r1, .int .i64 s.r2, .int .i64 s.r3], .agg #[.int .i64 y.Kind, bv y.Byte, .int .i64 y.Len, .int .i64 y.Dist]] w (retP Q) := by
  refine state_State_Next.calls ?_
  unfold state_State_Next.F
  obtain ⟨k, b, l, d⟩ := y
  dsimp only
  refine pN_bx hS (by rfl) fun x2 w hS => ?_
  refine pN_bx hS (by rfl) fun x3 w hS => ?_
  refine pN_nz hS fun x4 w hS => ?_
  refine pN_la hS (by rfl) ?_
  refine pc_state_State_right (right_ok hS hr fun w hS => ?_)
  repeat' (first | refine pIf_f ?_ | refine pN_via (by (intro K; simp (disch := omega) only [go_sem, pN_min, pN_max, w_u32, w_u64, Option.isNone_some, Option.isNone_none]; (try simp only [wrap_u32, wrap_u64]); rfl)) ?_ | fail)
  refine ⟨fun _ => False, ?_, fun _ _ h => h.elim⟩
  unfold Z.errY at hy hQ
  dsimp only at hy hQ
  by_cases h1 : k = 1 ∨ k = 4
  · rw [if_pos h1] at hy; exact absurd rfl hy
  rw [if_neg h1] at hy hQ
  by_cases h2 : k = 2
  · subst h2
    rw [if_pos rfl] at hy hQ
    by_cases hc : Z.isLen l ∧ Z.isDist d
    · rw [if_pos hc] at hy; exact absurd rfl hy
    rw [if_neg hc] at hQ
    by_cases hl : Z.isLen l
    · have l0 : decide (Z.isLen l) = true := decide_eq_true hl
      have d0 : decide (Z.isDist d) = false := decide_eq_false fun h => hc ⟨hl, h⟩
      repeat' (first | (refine pc_state_isLen (isLen_ok _ ?_); rw [l0]) | (refine pc_state_isDist (isDist_ok _ ?_); rw [d0]) | (refine pN_eql_s ?_ ?_ <;> intro hc <;> try (exfalso; first | omega | exact hc rfl | exact hc (by assumption) | exact absurd hc (by assumption))) | refine pIf_t ?_ | refine pIf_f ?_ | refine pGd_go (by rfl) ?_ | refine pN_l hS (by first | rfl | assumption) ?_ | refine pL_ra hS (by rfl) ?_ | (refine pN_sa hS (by rfl) (by rfl) (by rfl) ?_; clear hS; intro w hS; try dsimp only at hS) | refine pN_via (by (intro K; simp (disch := omega) only [go_sem, pN_min, pN_max, w_u32, w_u64, Option.isNone_some, Option.isNone_none]; (try simp only [wrap_u32, wrap_u64]); rfl)) ?_ | fail)
      exact hQ _ hS.to
    · have l0 : decide (Z.isLen l) = false := decide_eq_false hl
      repeat' (first | (refine pc_state_isLen (isLen_ok _ ?_); rw [l0]) | (refine pN_eql_s ?_ ?_ <;> intro hc <;> try (exfalso; first | omega | exact hc rfl | exact hc (by assumption) | exact absurd hc (by assumption))) | refine pIf_t ?_ | refine pIf_f ?_ | refine pGd_no (by rfl) ?_ | refine pN_l hS (by first | rfl | assumption) ?_ | refine pL_ra hS (by rfl) ?_ | (refine pN_sa hS (by rfl) (by rfl) (by rfl) ?_; clear hS; intro w hS; try dsimp only at hS) | refine pN_via (by (intro K; simp (disch := omega) only [go_sem, pN_min, pN_max, w_u32, w_u64, Option.isNone_some, Option.isNone_none]; (try simp only [wrap_u32, wrap_u64]); rfl)) ?_ | fail)
      exact hQ _ hS.to
  rw [if_neg h2] at hy hQ
  by_cases h3 : k = 3
  · subst h3
    rw [if_pos rfl] at hy hQ
    by_cases hc : Z.isLen l ∧ 0 ≤ d ∧ d ≤ 3
    · rw [if_pos hc] at hy; exact absurd rfl hy
    rw [if_neg hc] at hQ
    by_cases hl : Z.isLen l
    · have l0 : decide (Z.isLen l) = true := decide_eq_true hl
      have hd : ¬ (0 ≤ d ∧ d ≤ 3) := fun h => hc ⟨hl, h⟩
      repeat' (first | (refine pc_state_isLen (isLen_ok _ ?_); rw [l0]) | ((first | refine pN_lss_s ?_ ?_ | refine pN_gtr_s ?_ ?_) <;> intro hc <;> try (exfalso; omega)) | (refine pN_eql_s ?_ ?_ <;> intro hc <;> try (exfalso; first | omega | exact hc rfl | exact hc (by assumption) | exact absurd hc (by assumption))) | refine pIf_t ?_ | refine pIf_f ?_ | refine pGd_go (by rfl) ?_ | refine pGd_no (by rfl) ?_ | refine pN_l hS (by first | rfl | assumption) ?_ | refine pL_ra hS (by rfl) ?_ | (refine pN_sa hS (by rfl) (by rfl) (by rfl) ?_; clear hS; intro w hS; try dsimp only at hS) | refine pN_via (by (intro K; simp (disch := omega) only [go_sem, pN_min, pN_max, w_u32, w_u64, Option.isNone_some, Option.isNone_none]; (try simp only [wrap_u32, wrap_u64]); rfl)) ?_ | fail)
      all_goals exact hQ _ hS.to
    · have l0 : decide (Z.isLen l) = false := decide_eq_false hl
      repeat' (first | (refine pc_state_isLen (isLen_ok _ ?_); rw [l0]) | (refine pN_eql_s ?_ ?_ <;> intro hc <;> try (exfalso; first | omega | exact hc rfl | exact hc (by assumption) | exact absurd hc (by assumption))) | refine pIf_t ?_ | refine pIf_f ?_ | refine pGd_no (by rfl) ?_ | refine pN_l hS (by first | rfl | assumption) ?_ | refine pL_ra hS (by rfl) ?_ | (refine pN_sa hS (by rfl) (by rfl) (by rfl) ?_; clear hS; intro w hS; try dsimp only at hS) | refine pN_via (by (intro K; simp (disch := omega) only [go_sem, pN_min, pN_max, w_u32, w_u64, Option.isNone_some, Option.isNone_none]; (try simp only [wrap_u32, wrap_u64]); rfl)) ?_ | fail)
      exact hQ _ hS.to
  rw [if_neg h3] at hy hQ
  repeat' (first | (refine pN_eql_s ?_ ?_ <;> intro hc <;> try (exfalso; first | omega | exact hc rfl | exact hc (by assumption) | exact absurd hc (by assumption))) | refine pIf_f ?_ | refine pN_l hS (by first | rfl | assumption) ?_ | refine pL_ra hS (by rfl) ?_ | (refine pN_sa hS (by rfl) (by rfl) (by rfl) ?_; clear hS; intro w hS; try dsimp only at hS) | refine pN_via (by (intro K; simp (disch := omega) only [go_sem, pN_min, pN_max, w_u32, w_u64, Option.isNone_some, Option.isNone_none]; (try simp only [wrap_u32, wrap_u64]); rfl)) ?_ | fail)
  exact hQ _ hS.to

theorem SLiteral_ok (hS : Sat E w M) (hr : s.Right) (hQ : ∀ w, Sat E w M → Q (.bool (decide (s.num < 7))) w) : Calls Tryz.prog 144 #[.agg #[.int .i64 s.num, .int .i64 s.r0, .int .i64 s.r1, .int .i64 s.r2, .int .i64 s.r3]] w (retP Q) := by
  refine state_State_Literal.calls ?_
  unfold state_State_Literal.F
  have hn := hr.num
  repeat' (first | ((first | refine pN_lss_s ?_ ?_ | refine pN_geq_s ?_ ?_) <;> intro hc <;> try (exfalso; omega)) | refine pGd_go (by rfl) ?_ | refine pN_l hS (by first | rfl | assumption) ?_ | (refine pN_bx hS (by rfl) ?_; clear hS; intro a w hS) | refine pN_via (by (intro K; simp (disch := omega) only [go_sem, pN_min, pN_max, w_u32, w_u64, Option.isNone_some, Option.isNone_none]; (try simp only [wrap_u32, wrap_u64]); rfl)) ?_ | fail)
  · rw [decide_eq_true hc] at hQ; exact hQ _ hS.to
  · rw [decide_eq_false hc] at hQ; exact hQ _ hS.to

theorem SNew_ok (hS : Sat E w M) (hQ : ∀ w, Sat E w M → Q (.agg #[.int .i64 0, .int .i64 1, .int .i64 1, .int .i64 1, .int .i64 1]) w) : Calls Tryz.prog 43 #[] w (retP Q) := by
  refine state_New.calls ?_
  unfold state_New.F
  repeat' (first | refine pL_ra hS (by rfl) ?_ | (refine pN_sa hS (by rfl) (by rfl) (by rfl) ?_; clear hS; intro w hS; try dsimp only at hS) | (refine pN_nz hS ?_; clear hS; intro a w hS) | refine pN_via (by (intro K; simp (disch := omega) only [go_sem, pN_min, pN_max, w_u32, w_u64, Option.isNone_some, Option.isNone_none]; (try simp only [wrap_u32, wrap_u64]); rfl)) ?_ | fail)
  exact hQ _ hS.to

theorem PropsByte_in (p : Z.Pr) (hp : p.Ok) (hS : Sat E w M) (hQ : ∀ w, Sat E w M → Q (.tuple #[.int .i64 ((p.pb * 5 + p.lp) * 9 + p.lc), .int .i64 0]) w) : Calls Tryz.prog 45 #[.agg #[.int .i64 p.lc, .int .i64 p.lp, .int .i64 p.pb]] w (retP Q) := by
  refine state_PropsByte.calls ?_
  unfold state_PropsByte.F
  obtain ⟨h1, h2, h3, h4, h5⟩ := hp
  repeat' (first | ((first | refine pN_lss_s ?_ ?_ | refine pN_gtr_s ?_ ?_) <;> intro hc <;> try (exfalso; omega)) | refine pIf_f ?_ | refine pGd_go (by rfl) ?_ | refine pN_l hS (by first | rfl | assumption) ?_ | (refine pN_bx hS (by rfl) ?_; clear hS; intro a w hS) | refine pN_via (by (intro K; simp (disch := omega) only [go_sem, pN_min, pN_max, w_u32, w_u64, Option.isNone_some, Option.isNone_none]; (try simp only [wrap_u32, wrap_u64]); rfl)) ?_ | fail)
  exact hQ _ hS.to
theorem PropsByte_no (p : Z.Pr) (hp : ¬ p.Ok) (hb : -9223372036854775808 ≤ p.lc ∧ p.lc < 9223372036854775808) (hS : Sat E w M) (hQ : ∀ w, Sat E w M → Q (.tuple #[.int .i64 0, .int .i64 6]) w) : Calls Tryz.prog 45 #[.agg #[.int .i64 p.lc, .int .i64 p.lp, .int .i64 p.pb]] w (retP Q) := by
  refine state_PropsByte.calls ?_
  unfold state_PropsByte.F
  unfold Z.Pr.Ok at hp
  repeat' (first | ((first | refine pN_lss_s ?_ ?_ | refine pN_gtr_s ?_ ?_) <;> intro hc <;> try (exfalso; omega)) | refine pIf_t ?_ | refine pGd_go (by rfl) ?_ | refine pGd_no (by rfl) ?_ | refine pN_l hS (by first | rfl | assumption) ?_ | (refine pN_bx hS (by rfl) ?_; clear hS; intro a w hS) | refine pN_via (by (intro K; simp (disch := omega) only [go_sem, pN_min, pN_max, w_u32, w_u64, Option.isNone_some, Option.isNone_none]; (try simp only [wrap_u32, wrap_u64]); rfl)) ?_ | fail)
  all_goals exact hQ _ hS.to

theorem Slot_in (d : Int) (hd : Z.isDist d) (hQ : Q (.tuple #[.int .i64 (Z.slot d), .int .i64 0]) w) : Calls Tryz.prog 145 #[.int .i64 d] w (retP Q) := by
  refine state_Slot.calls ?_
  unfold state_Slot.F
  have d0 : decide (Z.isDist d) = true := decide_eq_true hd
  obtain ⟨h1, h2⟩ := hd
  refine pc_state_isDist (isDist_ok _ ?_)
  rw [d0]
  repeat' (first | (refine pN_lss_s ?_ ?_ <;> intro hc <;> try (exfalso; omega)) | refine pIf_t ?_ | refine pIf_f ?_ | refine pN_via (by (intro K; simp (disch := omega) only [go_sem, pN_min, pN_max, w_u32, w_u64, Option.isNone_some, Option.isNone_none]; (try simp only [wrap_u32, wrap_u64]); rfl)) ?_ | fail)
  · unfold Z.slot at hQ
    rw [if_pos (by omega)] at hQ
    exact hQ
  · obtain ⟨x, hx⟩ : ∃ x : Nat, d - 1 = x := ⟨(d - 1).toNat, by omega⟩
    have hx2 : (d - 1).toNat = x := by omega
    have hlt : x.log2 < 32 := (Nat.log2_lt (by omega)).2 (by omega)
    have hle : 2 ≤ x.log2 := (Nat.le_log2 (by omega)).2 (by omega)
    unfold Z.slot at hQ
    rw [if_neg (by omega), hx2] at hQ
    rw [hx] at hQ ⊢
    refine pc_math_bits_Len (BLen_ok x (by omega) (by omega) ?_)
    repeat' (first | refine pN_shr_k (x.log2 - 1) (by omega) (by show _ ≤ 64; omega) ?_ | refine pN_via (by (intro K; simp (disch := omega) only [go_sem, pN_min, pN_max, w_u32, w_u64, Option.isNone_some, Option.isNone_none]; (try simp only [wrap_u32, wrap_u64]); rfl)) ?_ | fail)
    have h5 : (0 : Int) ≤ (x : Int) / 2 ^ (x.log2 - 1) % 2 ∧ (x : Int) / 2 ^ (x.log2 - 1) % 2 < 2 := by omega
    have e : (2 : Int) * (((x.log2 + 1 : Nat) : Int) - 1) + (x : Int) / 2 ^ (x.log2 - 1) % 2 = 2 * (x.log2 : Int) + (x : Int) / 2 ^ (x.log2 - 1) % 2 := by omega
    rw [e]
    exact hQ

theorem Range_in (s : Int) (h0 : 0 ≤ s) (h1 : s ≤ 63) (hQ : Q (.tuple #[.int .i64 (Z.least s), .int .i64 (Z.bitsN s), .int .i64 0]) w) : Calls Tryz.prog 146 #[.int .i64 s] w (retP Q) := by
  refine state_Range.calls ?_
  unfold state_Range.F
  unfold Z.least Z.bitsN at hQ
  repeat' (first | ((first | refine pN_lss_s ?_ ?_ | refine pN_gtr_s ?_ ?_) <;> intro hc <;> try (exfalso; omega)) | refine pIf_t ?_ | refine pIf_f ?_ | refine pGd_go (by rfl) ?_ | refine pN_via (by (intro K; simp (disch := omega) only [go_sem, pN_min, pN_max, w_u32, w_u64, Option.isNone_some, Option.isNone_none]; (try simp only [wrap_u32, wrap_u64]); rfl)) ?_ | fail)
  · rw [if_pos (by omega), if_pos (by omega)] at hQ
    exact hQ
  · rw [if_neg (by omega), if_neg (by omega)] at hQ
    have hp : (2 : Int) ^ (s / 2 - 1).toNat ≤ 2 ^ 30 := two_le' (by omega)
    have hp0 : (0 : Int) < 2 ^ (s / 2 - 1).toNat := Int.pow_pos (by omega)
    have e2 : (2 : Int) ^ 30 = 1073741824 := by decide
    have hj : s / 2 - 1 = ((s / 2 - 1).toNat : Int) := by omega
    have h2 : s % 2 = 0 ∨ s % 2 = 1 := by omega
    rcases h2 with h2 | h2
    · rw [h2] at hQ ⊢
      have e : (2 + 0 : Int) * 2 ^ (s / 2 - 1).toNat = 2 * 2 ^ (s / 2 - 1).toNat := by omega
      rw [e] at hQ
      repeat' (first | refine pN_via (v := .int .i64 2) (by intro K; rw [pN_or, or_2_0]) ?_ | refine pN_shl_k _ hj (by show _ ≤ 64; omega) ?_ | refine pN_via (by (intro K; simp (disch := omega) only [go_sem, pN_min, pN_max, w_u32, w_u64, Option.isNone_some, Option.isNone_none]; (try simp only [wrap_u32, wrap_u64]); rfl)) ?_ | fail)
      rw [← hj] at hQ
      exact hQ
    · rw [h2] at hQ ⊢
      repeat' (first | refine pN_via (v := .int .i64 3) (by intro K; rw [pN_or, or_2_1]) ?_ | refine pN_shl_k _ hj (by show _ ≤ 64; omega) ?_ | refine pN_via (by (intro K; simp (disch := omega) only [go_sem, pN_min, pN_max, w_u32, w_u64, Option.isNone_some, Option.isNone_none]; (try simp only [wrap_u32, wrap_u64]); rfl)) ?_ | fail)
      rw [← hj] at hQ
      exact hQ
end

end Go.Proofs.YtbgnnjfpiblkmaaGreatDoor

namespace Go.Proofs.YtbgnnjfpiblkmaaGreatDoor
open Go
set_option linter.unusedSimpArgs false
set_option linter.unnecessarySimpa false
set_option linter.unusedSectionVars false
set_option linter.unusedVariables false
set_option maxRecDepth 100000

def window_New.H : Hints := { cut := fun  | _ => none, loop := fun  | _ => ([], 0), order := fun  | _ => [] }
def window_New.F [Pan] (x0 : Value) (w : World) (Q : Value → World → Prop) : Prop :=
 pN Tryz.prog (oBin .lss 3 (.tmp 4) (.const (.int .i64 1)) x0 (.int .i64 1)) w fun x5 w1 =>
 pGd (gB x5 false) (pN Tryz.prog (oMv x0) w1) w1 fun x7 w2 =>
 pGd (gB x5 false) (pN Tryz.prog (oBin .gtr 3 (.tmp 7) (.const (.int .i64 4294967295)) x7 (.int .i64 4294967295)) w2) w2 fun x8 w3 =>
 pN Tryz.prog (oPick x5 (.bool true) x8) w3 fun x9 w4 =>
 pIf x9
 (Q (.tuple #[(.pointer none), (.int .i64 7)]) w4)
 (pN Tryz.prog (oBuild 175 [(0, x0)]) w4 fun x11 w5 =>
 pN Tryz.prog (oBox 175 x11) w5 fun x12 w6 =>
 Q (.tuple #[x12, (.int .i64 0)]) w6)
noncomputable def window_New.c : Code := match Tryz.f42.body with | some c => c | none => .skip
theorem window_New.eq [Pan] (x0 : Value) (w : World) (Q : Value → World → Prop) : cw Tryz.prog window_New.H window_New.c (endQ Tryz.prog Tryz.f42.results.toList Q) (argsE [x0]) w = window_New.F x0 w Q := by kernel_rfl
theorem window_New.calls [Pan] {x0 : Value} {w : World} {Q : Value → World → Prop} (h : window_New.F x0 w Q) : Calls Tryz.prog 42 #[x0] w (retP Q) :=
  calls_of_cw (H := window_New.H) (c := window_New.c) (args := [x0]) mixed Tryz.func42 (by kernel_rfl) (by kernel_rfl) (Nat.le_of_ble_eq_true (by kernel_rfl)) ((window_New.eq x0 w Q).mpr h)

def window_Window_Put.H : Hints := { cut := fun | 3 => some ([1], 2147450882) | 8 => some ([1], 295147905177205342226) | 11 => some ([], 9669045373675598575042560) | _ => none, loop := fun | 8 => ([1], 40564819207008192942715149746210) | _ => ([], 0), order := fun | 3 => [(0, 0), (1, 1), (2, 3), (3, 7), (4, 15), (5, 31), (6, 63), (7, 127), (8, 255), (9, 511), (10, 1023), (11, 2047), (12, 4095), (13, 8191)] | 5 => [(0, 0), (1, 1), (2, 3), (3, 7), (4, 15), (5, 31), (6, 63), (7, 127), (8, 255), (9, 511), (10, 1023), (11, 2047)] | 9 => [(0, 0), (1, 1), (2, 3), (3, 7), (4, 15), (5, 31), (6, 63), (7, 127), (8, 255)] | 11 => [(0, 0), (1, 1), (2, 3), (3, 7), (4, 15), (5, 31), (6, 63), (7, 127), (8, 255), (9, 511), (10, 1023), (11, 2047)] | _ => [] }
def window_Window_Put.F [Pan] (x0 : Value) (x1 : Value) (w : World) (Q : Value → World → Prop) : Prop :=
 pN Tryz.prog (oNil x0) w fun x7 w1 =>
 pN Tryz.prog (oFld 175 x7 3) w1 fun x8 w2 =>
 pN Tryz.prog (oLoad 3 x8) w2 fun x9 w3 =>
 pN Tryz.prog (oBi .len #[30] 3 [false] [x1]) w3 fun x11 w4 =>
 pN Tryz.prog (oBin .add 3 (.tmp 9) (.tmp 11) x9 x11) w4 fun x12 w5 =>
 pN Tryz.prog (oNil x0) w5 fun x13 w6 =>
 pN Tryz.prog (oFld 175 x13 3) w6 fun x14 w7 =>
 pN Tryz.prog (oStore 3 x14 x12) w7 fun _ w8 =>
 ∃ I3 : Value → World → Prop,
 (pN Tryz.prog (oBi .len #[30] 3 [false] [x1]) w8 fun x16 w9 =>
 pN Tryz.prog (oNil x0) w9 fun x18 w10 =>
 pN Tryz.prog (oFld 175 x18 0) w10 fun x19 w11 =>
 pN Tryz.prog (oLoad 3 x19) w11 fun x20 w12 =>
 pN Tryz.prog (oBin .gtr 3 (.tmp 16) (.tmp 20) x16 x20) w12 fun x21 w13 =>
 pIf x21
 (pN Tryz.prog (oBi .len #[30] 3 [false] [x1]) w13 fun x24 w14 =>
 pN Tryz.prog (oNil x0) w14 fun x26 w15 =>
 pN Tryz.prog (oFld 175 x26 0) w15 fun x27 w16 =>
 pN Tryz.prog (oLoad 3 x27) w16 fun x28 w17 =>
 pN Tryz.prog (oBin .sub 3 (.tmp 24) (.tmp 28) x24 x28) w17 fun x29 w18 =>
 pN Tryz.prog (oSl 30 x1 (some x29) none none) w18 fun x30 w19 =>
 I3 x30 w19)
 (I3 x1 w13)) ∧
 ∀ (_j3 : Env) (b1c3 : Value) (w20 : World), I3 b1c3 w20 →
 ∃ I8 : Value → World → Prop,
 (pDr w20 fun w21 =>
 pA Tryz.prog (oBi .len #[30] 3 [false] [b1c3]) fun x32 =>
 pA Tryz.prog (oNil x0) fun x34 =>
 pA Tryz.prog (oFld 175 x34 0) fun x35 =>
 pL Tryz.prog (oLoad 3 x35) w21 fun x36 =>
 pA Tryz.prog (oNil x0) fun x38 =>
 pA Tryz.prog (oFld 175 x38 1) fun x39 =>
 pL Tryz.prog (oLoad 30 x39) w21 fun x40 =>
 pA Tryz.prog (oBi .len #[30] 3 [false] [x40]) fun x41 =>
 pA Tryz.prog (oBin .sub 3 (.tmp 36) (.tmp 41) x36 x41) fun x42 =>
 pA Tryz.prog (oBi .min #[3, 3] 3 [false, false] [x32, x42]) fun x43 =>
 pN Tryz.prog (oBin .gtr 3 (.tmp 44) (.const (.int .i64 0)) x43 (.int .i64 0)) w21 fun x45 w22 =>
 pIf x45
 (pDr w22 fun w23 =>
 pA Tryz.prog (oNil x0) fun x48 =>
 pA Tryz.prog (oFld 175 x48 1) fun x49 =>
 pL Tryz.prog (oLoad 30 x49) w23 fun x50 =>
 pA Tryz.prog (oSl 30 b1c3 none (some x43) none) fun x53 =>
 pN Tryz.prog (oBi .append #[30, 30] 30 [false, false] [x50, x53]) w23 fun x54 w24 =>
 (True) ∧ (pA Tryz.prog (oNil x0) fun x55 =>
 pA Tryz.prog (oFld 175 x55 1) fun x56 =>
 pN Tryz.prog (oStore 30 x56 x54) w24 fun _ w25 =>
 (True) ∧ (pN Tryz.prog (oNil x0) w25 fun x59 w26 =>
 pN Tryz.prog (oFld 175 x59 1) w26 fun x60 w27 =>
 pN Tryz.prog (oLoad 30 x60) w27 fun x61 w28 =>
 pN Tryz.prog (oBi .len #[30] 3 [false] [x61]) w28 fun x62 w29 =>
 pN Tryz.prog (oNil x0) w29 fun x63 w30 =>
 pN Tryz.prog (oFld 175 x63 2) w30 fun x64 w31 =>
 pN Tryz.prog (oStore 3 x64 x62) w31 fun _ w32 =>
 pN Tryz.prog (oSl 30 b1c3 (some x43) none none) w32 fun x67 w33 =>
 I8 x67 w33)))
 (I8 b1c3 w22)) ∧
 ∀ (_j8 : Env) (b1c8 : Value) (w34 : World), I8 b1c8 w34 →
 ∃ (L8 : Value → World → Prop) (m8 : Value → World → Nat),
 L8 b1c8 w34 ∧
 ∀ (_k8 : Env) (b1l8 : Value) (w35 : World), L8 b1l8 w35 →
 pN Tryz.prog (oBi .len #[30] 3 [false] [b1l8]) w35 fun x69 w36 =>
 pN Tryz.prog (oBin .gtr 3 (.tmp 69) (.const (.int .i64 0)) x69 (.int .i64 0)) w36 fun x70 w37 =>
 pIf x70
 (∃ I11 : World → Prop,
 (pDr w37 fun w38 =>
 pA Tryz.prog (oNil x0) fun x72 =>
 pA Tryz.prog (oFld 175 x72 2) fun x73 =>
 pL Tryz.prog (oLoad 3 x73) w38 fun x74 =>
 pA Tryz.prog (oNil x0) fun x76 =>
 pA Tryz.prog (oFld 175 x76 0) fun x77 =>
 pL Tryz.prog (oLoad 3 x77) w38 fun x78 =>
 pA Tryz.prog (oBin .eql 3 (.tmp 74) (.tmp 78) x74 x78) fun x79 =>
 pIf x79
 (pN Tryz.prog (oNil x0) w38 fun x81 w39 =>
 pN Tryz.prog (oFld 175 x81 2) w39 fun x82 w40 =>
 pN Tryz.prog (oStore 3 x82 (.int .i64 0)) w40 fun _ w41 =>
 I11 w41)
 (I11 w38)) ∧
 ∀ (_j11 : Env) (w42 : World), I11 w42 →
 pDr w42 fun w43 =>
 pA Tryz.prog (oNil x0) fun x84 =>
 pA Tryz.prog (oFld 175 x84 1) fun x85 =>
 pL Tryz.prog (oLoad 30 x85) w43 fun x86 =>
 pA Tryz.prog (oNil x0) fun x88 =>
 pA Tryz.prog (oFld 175 x88 2) fun x89 =>
 pL Tryz.prog (oLoad 3 x89) w43 fun x90 =>
 pA Tryz.prog (oSl 30 x86 (some x90) none none) fun x91 =>
 pN Tryz.prog (oBi .copy #[30, 30] 3 [false, false] [x91, b1l8]) w43 fun x93 w44 =>
 (True) ∧ (pN Tryz.prog (oNil x0) w44 fun x95 w45 =>
 pN Tryz.prog (oFld 175 x95 2) w45 fun x96 w46 =>
 pN Tryz.prog (oLoad 3 x96) w46 fun x97 w47 =>
 pN Tryz.prog (oBin .add 3 (.tmp 97) (.tmp 98) x97 x93) w47 fun x99 w48 =>
 pN Tryz.prog (oNil x0) w48 fun x100 w49 =>
 pN Tryz.prog (oFld 175 x100 2) w49 fun x101 w50 =>
 pN Tryz.prog (oStore 3 x101 x99) w50 fun _ w51 =>
 pN Tryz.prog (oSl 30 b1l8 (some x93) none none) w51 fun x104 w52 =>
 (L8 x104 w52 ∧ m8 x104 w52 < m8 b1l8 w35)))
 (Q (.tuple #[]) w37)
noncomputable def window_Window_Put.c : Code := match Tryz.f46.body with | some c => c | none => .skip
theorem window_Window_Put.eq [Pan] (x0 : Value) (x1 : Value) (w : World) (Q : Value → World → Prop) : cw Tryz.prog window_Window_Put.H window_Window_Put.c (endQ Tryz.prog Tryz.f46.results.toList Q) (argsE [x0, x1]) w = window_Window_Put.F x0 x1 w Q := by kernel_rfl
theorem window_Window_Put.calls [Pan] {x0 : Value} {x1 : Value} {w : World} {Q : Value → World → Prop} (h : window_Window_Put.F x0 x1 w Q) : Calls Tryz.prog 46 #[x0, x1] w (retP Q) :=
  calls_of_cw (H := window_Window_Put.H) (c := window_Window_Put.c) (args := [x0, x1]) mixed Tryz.func46 (by kernel_rfl) (by kernel_rfl) (Nat.le_of_ble_eq_true (by kernel_rfl)) ((window_Window_Put.eq x0 x1 w Q).mpr h)

def window_Window_Clear.H : Hints := { cut := fun  | _ => none, loop := fun  | _ => ([], 0), order := fun  | _ => [] }
def window_Window_Clear.F [Pan] (x0 : Value) (w : World) (Q : Value → World → Prop) : Prop :=
 pN Tryz.prog (oNil x0) w fun x4 w1 =>
 pN Tryz.prog (oFld 175 x4 0) w1 fun x5 w2 =>
 pN Tryz.prog (oLoad 3 x5) w2 fun x6 w3 =>
 pN Tryz.prog (oBuild 175 [(0, x6)]) w3 fun x7 w4 =>
 pN Tryz.prog (oNil x0) w4 fun x8 w5 =>
 pN Tryz.prog (oStore 175 x8 x7) w5 fun _ w6 =>
 Q (.tuple #[]) w6
noncomputable def window_Window_Clear.c : Code := match Tryz.f47.body with | some c => c | none => .skip
theorem window_Window_Clear.eq [Pan] (x0 : Value) (w : World) (Q : Value → World → Prop) : cw Tryz.prog window_Window_Clear.H window_Window_Clear.c (endQ Tryz.prog Tryz.f47.results.toList Q) (argsE [x0]) w = window_Window_Clear.F x0 w Q := by kernel_rfl
theorem window_Window_Clear.calls [Pan] {x0 : Value} {w : World} {Q : Value → World → Prop} (h : window_Window_Clear.F x0 w Q) : Calls Tryz.prog 47 #[x0] w (retP Q) :=
  calls_of_cw (H := window_Window_Clear.H) (c := window_Window_Clear.c) (args := [x0]) mixed Tryz.func47 (by kernel_rfl) (by kernel_rfl) (Nat.le_of_ble_eq_true (by kernel_rfl)) ((window_Window_Clear.eq x0 w Q).mpr h)

def window_Window_Copy.H : Hints := { cut := fun  | _ => none, loop := fun | 5 => ([8, 25], 549722260224) | _ => ([], 0), order := fun  | _ => [] }
def window_Window_Copy.F [Pan] (x0 : Value) (x1 : Value) (x2 : Value) (w : World) (Q : Value → World → Prop) : Prop :=
 pN Tryz.prog (oCall 138 [x0, x1]) w fun x12 w1 =>
 pN Tryz.prog (oUn .not x12) w1 fun x13 w2 =>
 pGd (gB x13 false) (pN Tryz.prog (oMv x2) w2) w2 fun x15 w3 =>
 pGd (gB x13 false) (pN Tryz.prog (oBin .lss 3 (.tmp 15) (.const (.int .i64 0)) x15 (.int .i64 0)) w3) w3 fun x16 w4 =>
 pN Tryz.prog (oPick x13 (.bool true) x16) w4 fun x17 w5 =>
 pGd (gB x17 false) (pN Tryz.prog (oMv x2) w5) w5 fun x19 w6 =>
 pGd (gB x17 false) (pN Tryz.prog (oBin .gtr 3 (.tmp 19) (.const (.int .i64 273)) x19 (.int .i64 273)) w6) w6 fun x20 w7 =>
 pN Tryz.prog (oPick x17 (.bool true) x20) w7 fun x21 w8 =>
 pIf x21
 (Q (.tuple #[(.slice none 0 0), (.int .i64 7)]) w8)
 (pN Tryz.prog (oMk 30 (.int .i64 0) x2) w8 fun x23 w9 =>
 ∃ (L5 : Value → Value → World → Prop) (m5 : Value → Value → World → Nat),
 L5 x23 (.int .i64 0) w9 ∧
 ∀ (_k5 : Env) (b8l5 : Value) (v25l5 : Value) (w10 : World), L5 b8l5 v25l5 w10 →
 pN Tryz.prog (oBin .lss 3 (.tmp 25) (.tmp 24) v25l5 x2) w10 fun x26 w11 =>
 pIf x26
 (pN Tryz.prog (oCall 139 [x0, x1]) w11 fun x29 w12 =>
 pN Tryz.prog (oBs 30 1 [(0, x29)]) w12 fun x32 w13 =>
 pN Tryz.prog (oCall 46 [x0, x32]) w13 fun _ w14 =>
 pN Tryz.prog (oBs 30 1 [(0, x29)]) w14 fun x36 w15 =>
 pN Tryz.prog (oBi .append #[30, 30] 30 [false, false] [b8l5, x36]) w15 fun x37 w16 =>
 pN Tryz.prog (oBin .add 3 (.tmp 25) (.const (.int .i64 1)) v25l5 (.int .i64 1)) w16 fun x38 w17 =>
 (L5 x37 x38 w17 ∧ m5 x37 x38 w17 < m5 b8l5 v25l5 w10))
 (Q (.tuple #[b8l5, (.int .i64 0)]) w11))
noncomputable def window_Window_Copy.c : Code := match Tryz.f93.body with | some c => c | none => .skip
theorem window_Window_Copy.eq [Pan] (x0 : Value) (x1 : Value) (x2 : Value) (w : World) (Q : Value → World → Prop) : cw Tryz.prog window_Window_Copy.H window_Window_Copy.c (endQ Tryz.prog Tryz.f93.results.toList Q) (argsE [x0, x1, x2]) w = window_Window_Copy.F x0 x1 x2 w Q := by kernel_rfl
theorem window_Window_Copy.calls [Pan] {x0 : Value} {x1 : Value} {x2 : Value} {w : World} {Q : Value → World → Prop} (h : window_Window_Copy.F x0 x1 x2 w Q) : Calls Tryz.prog 93 #[x0, x1, x2] w (retP Q) :=
  calls_of_cw (H := window_Window_Copy.H) (c := window_Window_Copy.c) (args := [x0, x1, x2]) mixed Tryz.func93 (by kernel_rfl) (by kernel_rfl) (Nat.le_of_ble_eq_true (by kernel_rfl)) ((window_Window_Copy.eq x0 x1 x2 w Q).mpr h)

def window_Window_Last.H : Hints := { cut := fun  | _ => none, loop := fun  | _ => ([], 0), order := fun  | _ => [] }
def window_Window_Last.F [Pan] (x0 : Value) (x1 : Value) (w : World) (Q : Value → World → Prop) : Prop :=
 pN Tryz.prog (oCall 138 [x0, x1]) w fun x8 w1 =>
 pN Tryz.prog (oUn .not x8) w1 fun x9 w2 =>
 pIf x9
 (Q (.tuple #[(bv 0), (.int .i64 7)]) w2)
 (pN Tryz.prog (oCall 139 [x0, x1]) w2 fun x12 w3 =>
 Q (.tuple #[x12, (.int .i64 0)]) w3)
noncomputable def window_Window_Last.c : Code := match Tryz.f101.body with | some c => c | none => .skip
theorem window_Window_Last.eq [Pan] (x0 : Value) (x1 : Value) (w : World) (Q : Value → World → Prop) : cw Tryz.prog window_Window_Last.H window_Window_Last.c (endQ Tryz.prog Tryz.f101.results.toList Q) (argsE [x0, x1]) w = window_Window_Last.F x0 x1 w Q := by kernel_rfl
theorem window_Window_Last.calls [Pan] {x0 : Value} {x1 : Value} {w : World} {Q : Value → World → Prop} (h : window_Window_Last.F x0 x1 w Q) : Calls Tryz.prog 101 #[x0, x1] w (retP Q) :=
  calls_of_cw (H := window_Window_Last.H) (c := window_Window_Last.c) (args := [x0, x1]) mixed Tryz.func101 (by kernel_rfl) (by kernel_rfl) (Nat.le_of_ble_eq_true (by kernel_rfl)) ((window_Window_Last.eq x0 x1 w Q).mpr h)

def window_Window_Pos.H : Hints := { cut := fun  | _ => none, loop := fun  | _ => ([], 0), order := fun  | _ => [] }
def window_Window_Pos.F [Pan] (x0 : Value) (w : World) (Q : Value → World → Prop) : Prop :=
 pN Tryz.prog (oNil x0) w fun x4 w1 =>
 pN Tryz.prog (oFld 175 x4 3) w1 fun x5 w2 =>
 pN Tryz.prog (oLoad 3 x5) w2 fun x6 w3 =>
 Q x6 w3
noncomputable def window_Window_Pos.c : Code := match Tryz.f103.body with | some c => c | none => .skip
theorem window_Window_Pos.eq [Pan] (x0 : Value) (w : World) (Q : Value → World → Prop) : cw Tryz.prog window_Window_Pos.H window_Window_Pos.c (endQ Tryz.prog Tryz.f103.results.toList Q) (argsE [x0]) w = window_Window_Pos.F x0 w Q := by kernel_rfl
theorem window_Window_Pos.calls [Pan] {x0 : Value} {w : World} {Q : Value → World → Prop} (h : window_Window_Pos.F x0 w Q) : Calls Tryz.prog 103 #[x0] w (retP Q) :=
  calls_of_cw (H := window_Window_Pos.H) (c := window_Window_Pos.c) (args := [x0]) mixed Tryz.func103 (by kernel_rfl) (by kernel_rfl) (Nat.le_of_ble_eq_true (by kernel_rfl)) ((window_Window_Pos.eq x0 w Q).mpr h)

def window_Window_in.H : Hints := { cut := fun  | _ => none, loop := fun  | _ => ([], 0), order := fun  | _ => [] }
def window_Window_in.F [Pan] (x0 : Value) (x1 : Value) (w : World) (Q : Value → World → Prop) : Prop :=
 pN Tryz.prog (oBin .geq 3 (.tmp 5) (.const (.int .i64 1)) x1 (.int .i64 1)) w fun x6 w1 =>
 pGd (gB x6 true) (pN Tryz.prog (oMv x1) w1) w1 fun x8 w2 =>
 pGd (gB x6 true) (pN Tryz.prog (oMv x0) w2) w2 fun x9 w3 =>
 pGd (gB x6 true) (pN Tryz.prog (oNil x9) w3) w3 fun x10 w4 =>
 pGd (gB x6 true) (pN Tryz.prog (oFld 175 x10 1) w4) w4 fun x11 w5 =>
 pGd (gB x6 true) (pN Tryz.prog (oLoad 30 x11) w5) w5 fun x12 w6 =>
 pGd (gB x6 true) (pN Tryz.prog (oBi .len #[30] 3 [false] [x12]) w6) w6 fun x13 w7 =>
 pGd (gB x6 true) (pN Tryz.prog (oBin .leq 3 (.tmp 8) (.tmp 13) x8 x13) w7) w7 fun x14 w8 =>
 pN Tryz.prog (oPick x6 x14 (.bool false)) w8 fun x15 w9 =>
 Q x15 w9
noncomputable def window_Window_in.c : Code := match Tryz.f138.body with | some c => c | none => .skip
theorem window_Window_in.eq [Pan] (x0 : Value) (x1 : Value) (w : World) (Q : Value → World → Prop) : cw Tryz.prog window_Window_in.H window_Window_in.c (endQ Tryz.prog Tryz.f138.results.toList Q) (argsE [x0, x1]) w = window_Window_in.F x0 x1 w Q := by kernel_rfl
theorem window_Window_in.calls [Pan] {x0 : Value} {x1 : Value} {w : World} {Q : Value → World → Prop} (h : window_Window_in.F x0 x1 w Q) : Calls Tryz.prog 138 #[x0, x1] w (retP Q) :=
  calls_of_cw (H := window_Window_in.H) (c := window_Window_in.c) (args := [x0, x1]) mixed Tryz.func138 (by kernel_rfl) (by kernel_rfl) (Nat.le_of_ble_eq_true (by kernel_rfl)) ((window_Window_in.eq x0 x1 w Q).mpr h)

def window_Window_back.H : Hints := { cut := fun | 4 => some ([5], 2093088) | _ => none, loop := fun  | _ => ([], 0), order := fun  | _ => [] }
def window_Window_back.F [Pan] (x0 : Value) (x1 : Value) (w : World) (Q : Value → World → Prop) : Prop :=
 pN Tryz.prog (oNil x0) w fun x7 w1 =>
 pN Tryz.prog (oFld 175 x7 2) w1 fun x8 w2 =>
 pN Tryz.prog (oLoad 3 x8) w2 fun x9 w3 =>
 pN Tryz.prog (oBin .sub 3 (.tmp 9) (.tmp 10) x9 x1) w3 fun x11 w4 =>
 ∃ I4 : Value → World → Prop,
 (pN Tryz.prog (oBin .lss 3 (.tmp 12) (.const (.int .i64 0)) x11 (.int .i64 0)) w4 fun x13 w5 =>
 pIf x13
 (pN Tryz.prog (oNil x0) w5 fun x16 w6 =>
 pN Tryz.prog (oFld 175 x16 1) w6 fun x17 w7 =>
 pN Tryz.prog (oLoad 30 x17) w7 fun x18 w8 =>
 pN Tryz.prog (oBi .len #[30] 3 [false] [x18]) w8 fun x19 w9 =>
 pN Tryz.prog (oBin .add 3 (.tmp 14) (.tmp 19) x11 x19) w9 fun x20 w10 =>
 I4 x20 w10)
 (I4 x11 w5)) ∧
 ∀ (_j4 : Env) (i5c4 : Value) (w11 : World), I4 i5c4 w11 →
 pN Tryz.prog (oNil x0) w11 fun x22 w12 =>
 pN Tryz.prog (oFld 175 x22 1) w12 fun x23 w13 =>
 pN Tryz.prog (oLoad 30 x23) w13 fun x24 w14 =>
 pN Tryz.prog (oIdx 30 x24 i5c4) w14 fun x26 w15 =>
 pN Tryz.prog (oLoad 5 x26) w15 fun x27 w16 =>
 Q x27 w16
noncomputable def window_Window_back.c : Code := match Tryz.f139.body with | some c => c | none => .skip
theorem window_Window_back.eq [Pan] (x0 : Value) (x1 : Value) (w : World) (Q : Value → World → Prop) : cw Tryz.prog window_Window_back.H window_Window_back.c (endQ Tryz.prog Tryz.f139.results.toList Q) (argsE [x0, x1]) w = window_Window_back.F x0 x1 w Q := by kernel_rfl
theorem window_Window_back.calls [Pan] {x0 : Value} {x1 : Value} {w : World} {Q : Value → World → Prop} (h : window_Window_back.F x0 x1 w Q) : Calls Tryz.prog 139 #[x0, x1] w (retP Q) :=
  calls_of_cw (H := window_Window_back.H) (c := window_Window_back.c) (args := [x0, x1]) mixed Tryz.func139 (by kernel_rfl) (by kernel_rfl) (Nat.le_of_ble_eq_true (by kernel_rfl)) ((window_Window_back.eq x0 x1 w Q).mpr h)

end Go.Proofs.YtbgnnjfpiblkmaaGreatDoor

namespace Go.Proofs.YtbgnnjfpiblkmaaGreatDoor
open Go
set_option linter.unusedSimpArgs false
set_option linter.unnecessarySimpa false
set_option linter.unusedSectionVars false
set_option linter.unusedVariables false
namespace Z

structure W where
  size : Int
  all : List UInt8
structure W.Ok (x : W) : Prop where
  s0 : 1 ≤ x.size
  s1 : x.size ≤ 4294967295
  n : x.all.length ≤ 4611686018427387904
def W.full (x : W) : Nat := min x.all.length x.size.toNat
def W.last (x : W) (d : Nat) : UInt8 := (x.all[x.all.length - d]?).getD 0
def W.has (x : W) (d : Int) : Prop := 1 ≤ d ∧ d ≤ x.full
instance (x : W) (d : Int) : Decidable (x.has d) := by unfold W.has; exact inferInstance

def ix (at_ n d : Nat) : Nat := if d ≤ at_ then at_ - d else at_ + n - d
structure Rep (size : Nat) (all ring : List UInt8) (at_ : Nat) : Prop where
  len : ring.length = min all.length size
  le : at_ ≤ ring.length
  grow : ring.length < size → at_ = ring.length
  get : ∀ d, 1 ≤ d → d ≤ ring.length → ring[ix at_ ring.length d]? = all[all.length - d]?
theorem Rep.new (size : Nat) : Rep size [] [] 0 := ⟨by simp, by simp, fun _ => rfl, fun d h1 h2 => by simp at h2; omega⟩
theorem Rep.small {size : Nat} {all ring : List UInt8} {at_ : Nat} (h : Rep size all ring at_) (hg : ring.length < size) : ring = all ∧ at_ = ring.length := by
  have h1 := h.len
  have h2 := h.grow hg
  refine ⟨List.ext_getElem? fun i => ?_, h2⟩
  by_cases hi : i < ring.length
  · have := h.get (ring.length - i) (by omega) (by omega)
    rw [ix, if_pos (by omega), h2] at this
    rw [show ring.length - (ring.length - i) = i from by omega] at this
    rw [this]; congr 1; omega
  · rw [List.getElem?_eq_none (by omega), List.getElem?_eq_none (by omega)]
theorem Rep.grown {size : Nat} {all ring : List UInt8} {at_ : Nat} (h : Rep size all ring at_) (g : List UInt8) (hg : 0 < g.length) (hl : ring.length + g.length ≤ size) : Rep size (all ++ g) (ring ++ g) (ring ++ g).length := by
  obtain ⟨rfl, _⟩ := h.small (by omega)
  refine ⟨by simp; omega, Nat.le_refl _, fun _ => rfl, fun d h1 h2 => by rw [ix, if_pos h2]⟩
theorem Rep.turned {all ring : List UInt8} {at_ : Nat} (h : Rep ring.length all ring at_) (g : List UInt8) (hl : at_ + g.length ≤ ring.length) : Rep ring.length (all ++ g) (ring.take at_ ++ g ++ ring.drop (at_ + g.length)) (at_ + g.length) := by
  have hlen := h.len
  have hl2 : (ring.take at_ ++ g ++ ring.drop (at_ + g.length)).length = ring.length := by simp; omega
  refine ⟨by rw [hl2]; simp; omega, by rw [hl2]; exact hl, fun h' => by rw [hl2] at h'; omega, fun d h1 h2 => ?_⟩
  rw [hl2] at h2 ⊢
  by_cases hd : d ≤ g.length
  · rw [ix, if_pos (by omega), List.append_assoc, List.getElem?_append_right (by simp; omega), List.length_take, Nat.min_eq_left (by omega), List.getElem?_append_left (by omega)]
    rw [List.getElem?_append_right (by simp; omega), List.length_append]
    congr 1; omega
  · have h3 := h.get (d - g.length) (by omega) (by omega)
    have e2 : (all ++ g)[(all ++ g).length - d]? = all[all.length - (d - g.length)]? := by
      have e3 : (all ++ g).length - d = all.length - (d - g.length) := by simp; omega
      rw [e3, List.getElem?_append_left (by omega)]
    rw [e2, ← h3]
    unfold ix
    by_cases h4 : d ≤ at_ + g.length
    · rw [if_pos h4, if_pos (by omega), List.append_assoc, List.getElem?_append_left (by simp; omega), List.getElem?_take, if_pos (by omega)]
      congr 1; omega
    · rw [if_neg h4, if_neg (by omega), List.getElem?_append_right (by simp; omega), List.getElem?_drop]
      simp only [List.length_append, List.length_take]
      congr 1; omega
theorem Rep.wrap {all ring : List UInt8} (h : Rep ring.length all ring ring.length) : Rep ring.length all ring 0 :=
  ⟨h.len, Nat.zero_le _, fun h' => by omega, fun d h1 h2 => by
    have := h.get d h1 h2
    rw [ix, if_pos h2] at this
    rw [ix, if_neg (by omega), ← this, Nat.zero_add]⟩
theorem Rep.suffix {size : Nat} {all g ring : List UInt8} {at_ : Nat} {pre : List UInt8} (h : Rep size (all ++ g) ring at_) (hg : size ≤ g.length) : Rep size (all ++ (pre ++ g)) ring at_ := by
  have hl := h.len
  simp only [List.length_append] at hl
  refine ⟨by simp; omega, h.le, h.grow, fun d h1 h2 => ?_⟩
  rw [h.get d h1 h2, List.getElem?_append_right (by simp; omega), List.getElem?_append_right (by simp; omega), List.getElem?_append_right (by simp; omega)]
  congr 1
  simp; omega

def cpy (all : List UInt8) (d : Nat) : Nat → List UInt8
  | 0 => []
  | n + 1 => cpy all d n ++ [((all ++ cpy all d n)[(all ++ cpy all d n).length - d]?).getD 0]
theorem cpy_len (all : List UInt8) (d n : Nat) : (cpy all d n).length = n := by
  induction n with
  | zero => rfl
  | succ n ih => simp [cpy, ih]

end Z
end Go.Proofs.YtbgnnjfpiblkmaaGreatDoor
