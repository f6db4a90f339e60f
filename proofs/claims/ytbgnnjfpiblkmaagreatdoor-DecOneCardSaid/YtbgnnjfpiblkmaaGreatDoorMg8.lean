/-
  Texts of one proof, one behind the other: LzSymR, LzSymbol, LzE, LzDec, LzTake, Puts, Law15, Expand, ZOdd, DecOne.
-/
import Derived.SevenTiedAt
import Derived.Laws.StructEq
import Derived.Test.YtbgnnjfpiblkmaaGreatDoorMg7
namespace Go.Proofs.YtbgnnjfpiblkmaaGreatDoor
open Go
set_option linter.unusedSimpArgs false
set_option linter.unnecessarySimpa false
set_option linter.unusedSectionVars false
set_option linter.unusedVariables false
theorem Sat.fd5 {E w : World} {L M N O R T : List HA} {σ τ υ φ χ : Type} (hS : Sat E w L) (F : σ → HA) (G : τ → HA) (H : υ → HA) (I : φ → HA) (J : χ → HA) {a : σ} {b : τ} {c : υ} {d : φ} {e : χ} [h1 : Fnd F L a M] [h2 : Fnd G M b N] [h3 : Fnd H N c O] [h4 : Fnd I O d R] [h5 : Fnd J R e T] : Sat E w (F a :: G b :: H c :: I d :: J e :: T) :=
  (hS.fd4 F G H I).perm (((((h5.perm).cons _).cons _).cons _).cons _)
attribute [local irreducible] oMv oV oU oCall oCallV oBi oBin oUn oLoad oStore oNil oFld oField oIdx oIndex oPick oAlloc oBox oBuild oBs oConv oMk oSl oExt oFn oIface oMap oLook oMapUp oRange oNext oEntry oInv oAssert oPanic oRes pN pA pL pDr pIf gA pGd

section
variable {E w W : World} {M N : List HA} {Q : Value → World → Prop} {p : Z.Pr} {s : Z.St} {x : Z.W} {B : List UInt8} {r dec dd t wd : Nat} {q : Nat → Nat} {z : Option Z.RS} {f : Bool}

set_option maxHeartbeats 1000000 in
theorem rlength_ok (k : Nat) (hkk : k = 7 ∨ k = 11) (hp : p.Ok) (hB : B.length ≤ 225000000000000) (hx : x.all.length ≤ 4611686018427387904)
    (hS : Sat E w (cel r ⟨233, rdCells dec dd z.isNone⟩ :: Rsd p B dd q z :: cel dec ⟨171, dcCells t wd f⟩ :: cel t ⟨141, tbCells p s q⟩ :: Win wd x :: M))
    (hQ : ∀ y v w, Z.Got (Z.lenRd k p x.all.length) z y v → Z.isLen v → Sat E w (cel r ⟨233, rdCells dec dd y.isNone⟩ :: Rsd p B dd q y :: cel dec ⟨171, dcCells t wd f⟩ :: cel t ⟨141, tbCells p s q⟩ :: Win wd x :: M) → Q (.int .i64 v) w) :
    Calls Tryz.prog 169 #[pz r, .agg #[pz (q k), pz (q (k + 1)), pz (q (k + 2)), pz (q (k + 3))]] w (retP Q) := by
  refine lzdec_reader_length.calls ?_
  unfold lzdec_reader_length.F
  have hpl := place_bd hp x.all.length
  obtain ⟨t0, t1, t2, t3⟩ := Z.tab_c p k hkk
  have e3 : (2 : Int) ^ 3 = 8 := by decide
  have e8 : (2 : Int) ^ 8 = 256 := by decide
  repeat' (first | (refine pc_window_Window_Pos (Pos_ok (hS.fd (Win wd)) ?_); clear hS; intro w hS) | (refine pc_model_Tables_PlaceState (PlaceState_ok (hS.fd (cel t)) hp _ (by omega) (by omega) ?_); clear hS; intro w hS) | refine pN_l hS (by first | rfl | assumption) ?_ | refine pL_l hS (by first | rfl | assumption) ?_ | (refine pDr_go hS ?_; clear hS; intro w hS) | (refine pN_bx hS (by rfl) ?_; clear hS; intro a w hS) | refine ⟨trivial, ?_⟩ | refine ⟨⟨(by first | exact run_l hS (by first | rfl | assumption) | exact run_st hS (by first | rfl | omega) | exact run_ld1 ha hS | exact fun _ => run_l hS (by rfl) | exact fun _ => run_st hS (by first | rfl | omega) | exact fun _ => run_ld1 ha hS | exact fun h => Bool.noConfusion h), (by first | exact run_l hS (by first | rfl | assumption) | exact run_st hS (by first | rfl | omega) | exact run_ld1 ha hS | exact fun _ => run_l hS (by rfl) | exact fun _ => run_st hS (by first | rfl | omega) | exact fun _ => run_ld1 ha hS | exact fun h => Bool.noConfusion h), trivial⟩, ?_⟩ | refine pN_via (by (intro K; simp (disch := omega) only [go_sem, pN_min, pN_max, w_u32, w_u64, Option.isNone_some, Option.isNone_none]; (try simp only [wrap_u32, wrap_u64]); rfl)) ?_ | refine pA_via (by (intro K; simp (disch := omega) only [go_sem, pN_min, pN_max, w_u32, w_u64, Option.isNone_some, Option.isNone_none]; (try simp only [wrap_u32, wrap_u64]); rfl)) ?_ | fail)
  refine pc_lzdec_reader_bit (rbit_ok (hS.fd2 (cel r) (Rsd p B dd q)) hB k (by omega) 0 (by omega) (by omega) fun z1 b1 w g1 hb1 hS => ?_)
  rcases hb1 with rfl | rfl
  · repeat' (first | (refine pN_eql_s ?_ ?_ <;> intro hc <;> try (exfalso; first | omega | exact hc rfl | exact hc (by assumption) | exact absurd hc (by assumption))) | refine pIf_t ?_ | refine pN_l hS (by first | rfl | assumption) ?_ | refine pN_via (by (intro K; simp (disch := omega) only [go_sem, pN_min, pN_max, w_u32, w_u64, Option.isNone_some, Option.isNone_none]; (try simp only [wrap_u32, wrap_u64]); rfl)) ?_ | fail)
    refine pc_lzdec_reader_tree (rtree_ok (hS.fd2 (cel r) (Rsd p B dd q)) hp hB (k + 1) (by omega) _ 3 ⟨by omega, by omega, by omega, by omega, by show (2 : Int) ^ 3 ≤ _; omega⟩ fun z2 v2 w g2 v0 v1 hS => ?_)
    rw [e3] at v1
    repeat' (first | refine pN_via (by (intro K; simp (disch := omega) only [go_sem, pN_min, pN_max, w_u32, w_u64, Option.isNone_some, Option.isNone_none]; (try simp only [wrap_u32, wrap_u64]); rfl)) ?_ | fail)
    refine hQ z2 _ _ (Z.Got.bit g1 ?_) ⟨by omega, by omega⟩ hS.to
    rw [if_pos rfl]
    exact g2.map
  · repeat' (first | (refine pN_eql_s ?_ ?_ <;> intro hc <;> try (exfalso; first | omega | exact hc rfl | exact hc (by assumption) | exact absurd hc (by assumption))) | refine pIf_f ?_ | refine pN_l hS (by first | rfl | assumption) ?_ | refine pN_via (by (intro K; simp (disch := omega) only [go_sem, pN_min, pN_max, w_u32, w_u64, Option.isNone_some, Option.isNone_none]; (try simp only [wrap_u32, wrap_u64]); rfl)) ?_ | fail)
    refine pc_lzdec_reader_bit (rbit_ok (hS.fd2 (cel r) (Rsd p B dd q)) hB k (by omega) 1 (by omega) (by omega) fun z2 b2 w g2 hb2 hS => ?_)
    rcases hb2 with rfl | rfl
    · repeat' (first | (refine pN_eql_s ?_ ?_ <;> intro hc <;> try (exfalso; first | omega | exact hc rfl | exact hc (by assumption) | exact absurd hc (by assumption))) | refine pIf_t ?_ | refine pN_l hS (by first | rfl | assumption) ?_ | refine pN_via (by (intro K; simp (disch := omega) only [go_sem, pN_min, pN_max, w_u32, w_u64, Option.isNone_some, Option.isNone_none]; (try simp only [wrap_u32, wrap_u64]); rfl)) ?_ | fail)
      refine pc_lzdec_reader_tree (rtree_ok (hS.fd2 (cel r) (Rsd p B dd q)) hp hB (k + 2) (by omega) _ 3 ⟨by omega, by omega, by omega, by omega, by show (2 : Int) ^ 3 ≤ _; omega⟩ fun z3 v3 w g3 v0 v1 hS => ?_)
      rw [e3] at v1
      repeat' (first | refine pN_via (by (intro K; simp (disch := omega) only [go_sem, pN_min, pN_max, w_u32, w_u64, Option.isNone_some, Option.isNone_none]; (try simp only [wrap_u32, wrap_u64]); rfl)) ?_ | fail)
      refine hQ z3 _ _ (Z.Got.bit g1 ?_) ⟨by omega, by omega⟩ hS.to
      rw [if_neg (by decide)]
      refine Z.Got.bit g2 ?_
      rw [if_pos rfl]
      exact g3.map
    · repeat' (first | (refine pN_eql_s ?_ ?_ <;> intro hc <;> try (exfalso; first | omega | exact hc rfl | exact hc (by assumption) | exact absurd hc (by assumption))) | refine pIf_f ?_ | refine pN_l hS (by first | rfl | assumption) ?_ | refine pN_via (by (intro K; simp (disch := omega) only [go_sem, pN_min, pN_max, w_u32, w_u64, Option.isNone_some, Option.isNone_none]; (try simp only [wrap_u32, wrap_u64]); rfl)) ?_ | fail)
      refine pc_lzdec_reader_tree (rtree_ok (hS.fd2 (cel r) (Rsd p B dd q)) hp hB (k + 3) (by omega) _ 8 ⟨by omega, by omega, by omega, by omega, by show (2 : Int) ^ 8 ≤ _; omega⟩ fun z3 v3 w g3 v0 v1 hS => ?_)
      rw [e8] at v1
      repeat' (first | refine pN_via (by (intro K; simp (disch := omega) only [go_sem, pN_min, pN_max, w_u32, w_u64, Option.isNone_some, Option.isNone_none]; (try simp only [wrap_u32, wrap_u64]); rfl)) ?_ | fail)
      refine hQ z3 _ _ (Z.Got.bit g1 ?_) ⟨by omega, by omega⟩ hS.to
      rw [if_neg (by decide)]
      refine Z.Got.bit g2 ?_
      rw [if_neg (by decide)]
      exact g3.map

theorem least_bd {s : Int} (h0 : 0 ≤ s) (h1 : s < 64) : 1 ≤ Z.least s ∧ Z.least s ≤ 4294967296 ∧ Z.bitsN s ≤ 30 := by
  have key : ∀ a : Fin 64, 1 ≤ Z.least (a.val : Int) ∧ Z.least (a.val : Int) ≤ 4294967296 ∧ Z.bitsN (a.val : Int) ≤ 30 := by decide +kernel
  have := key ⟨s.toNat, by omega⟩
  simp only [Int.toNat_of_nonneg h0] at this
  exact this
set_option maxHeartbeats 2000000 in
theorem rdistance_ok {n : Int} (hn : Z.isLen n) (hp : p.Ok) (hB : B.length ≤ 225000000000000)
    (hS : Sat E w (cel r ⟨233, rdCells dec dd z.isNone⟩ :: Rsd p B dd q z :: cel dec ⟨171, dcCells t wd f⟩ :: cel t ⟨141, tbCells p s q⟩ :: Win wd x :: M))
    (hQ : ∀ y v w, Z.Got (Z.distRd n) z y v → -9223372036854775808 ≤ v → v < 9223372036854775808 → Sat E w (cel r ⟨233, rdCells dec dd y.isNone⟩ :: Rsd p B dd q y :: cel dec ⟨171, dcCells t wd f⟩ :: cel t ⟨141, tbCells p s q⟩ :: Win wd x :: M) → Q (.int .i64 v) w) :
    Calls Tryz.prog 170 #[pz r, .int .i64 n] w (retP Q) := by
  refine lzdec_reader_distance.calls ?_
  unfold lzdec_reader_distance.F
  obtain ⟨n1, n2⟩ := hn
  have e6 : (2 : Int) ^ 6 = 64 := by decide
  have e4 : (2 : Int) ^ 4 = 16 := by decide
  have t15 : Z.tabLen p 15 = 256 := rfl
  have t16 : Z.tabLen p 16 = 128 := rfl
  have t17 : Z.tabLen p 17 = 16 := rfl
  have hmx : max 0 (min (n - 2) 3) = min (n - 2) 3 := by omega
  repeat' (first | refine pN_l hS (by first | rfl | assumption) ?_ | refine pN_via (by (intro K; simp (disch := omega) only [go_sem, pN_min, pN_max, w_u32, w_u64, Option.isNone_some, Option.isNone_none]; (try simp only [wrap_u32, wrap_u64]); rfl)) ?_ | fail)
  rw [hmx]
  refine pc_lzdec_reader_tree (rtree_ok (hS.fd2 (cel r) (Rsd p B dd q)) hp hB 15 (by decide) _ 6 ⟨by omega, by omega, by omega, by omega, by show (2 : Int) ^ 6 ≤ _; omega⟩ fun z1 v w g1 s0 s1 hS => ?_)
  rw [e6] at s1
  have hlb := least_bd s0 s1
  have hb0 := Z.bits_0 s0
  repeat' (first | refine pc_state_Range (Range_in _ s0 (by omega) ?_) | (refine pN_eql_s ?_ ?_ <;> intro hc <;> try (exfalso; first | omega | exact hc rfl | exact hc (by assumption) | exact absurd hc (by assumption))) | refine pIf_t ?_ | refine pIf_f ?_ | refine pN_via (by (intro K; simp (disch := omega) only [go_sem, pN_min, pN_max, w_u32, w_u64, Option.isNone_some, Option.isNone_none]; (try simp only [wrap_u32, wrap_u64]); rfl)) ?_ | fail)
  · refine hQ z1 _ _ (Z.Got.bind g1 ?_) (by omega) (by omega) hS.to
    rw [if_pos (by omega)]
    exact Z.Got.ret _ _
  · by_cases h14 : v < 14
    · have e14 : decide (14 ≤ v) = false := decide_eq_false (by omega)
      have hr := Z.rest_law v (by omega) (by omega)
      have hrb : (2 : Int) ^ Z.bitsN v ≤ 2 ^ 5 := two_le' hr.2.2.1
      have e5 : (2 : Int) ^ 5 = 32 := by decide
      have hrp : (0 : Int) < 2 ^ Z.bitsN v := Int.pow_pos (by omega)
      repeat' (first | (refine pc_model_Late (Late_ok _ ?_); rw [e14]) | refine pc_model_RestAt (RestAt_ok _ s0 (by omega) ?_) | refine pIf_t ?_ | refine pL_l hS (by first | rfl | assumption) ?_ | (refine pDr_go hS ?_; clear hS; intro w hS) | refine ⟨⟨(by first | exact run_l hS (by first | rfl | assumption) | exact run_st hS (by first | rfl | omega) | exact run_ld1 ha hS | exact fun _ => run_l hS (by rfl) | exact fun _ => run_st hS (by first | rfl | omega) | exact fun _ => run_ld1 ha hS | exact fun h => Bool.noConfusion h), (by first | exact run_l hS (by first | rfl | assumption) | exact run_st hS (by first | rfl | omega) | exact run_ld1 ha hS | exact fun _ => run_l hS (by rfl) | exact fun _ => run_st hS (by first | rfl | omega) | exact fun _ => run_ld1 ha hS | exact fun h => Bool.noConfusion h), (by first | exact run_l hS (by first | rfl | assumption) | exact run_st hS (by first | rfl | omega) | exact run_ld1 ha hS | exact fun _ => run_l hS (by rfl) | exact fun _ => run_st hS (by first | rfl | omega) | exact fun _ => run_ld1 ha hS | exact fun h => Bool.noConfusion h), trivial⟩, ?_⟩ | refine pN_via (by (intro K; simp (disch := omega) only [go_sem, pN_min, pN_max, w_u32, w_u64, Option.isNone_some, Option.isNone_none]; (try simp only [wrap_u32, wrap_u64]); rfl)) ?_ | refine pA_via (by (intro K; simp (disch := omega) only [go_sem, pN_min, pN_max, w_u32, w_u64, Option.isNone_some, Option.isNone_none]; (try simp only [wrap_u32, wrap_u64]); rfl)) ?_ | fail)
      refine pc_lzdec_reader_back (rback_ok (hS.fd2 (cel r) (Rsd p B dd q)) hp hB 16 (by decide) _ (Z.bitsN v) ⟨by omega, by omega, by omega, by omega, by rw [Int.toNat_natCast]; omega⟩ fun z2 u w g2 u0 u1 hS => ?_)
      repeat' (first | refine ⟨trivial, ?_⟩ | refine pA_via (by (intro K; simp (disch := omega) only [go_sem, pN_min, pN_max, w_u32, w_u64, Option.isNone_some, Option.isNone_none]; (try simp only [wrap_u32, wrap_u64]); rfl)) ?_ | fail)
      refine hQ z2 _ _ (Z.Got.bind g1 ?_) (by omega) (by omega) hS.to
      rw [if_neg (by omega), if_pos h14]
      exact g2.map
    · have e14 : decide (14 ≤ v) = true := decide_eq_true (by omega)
      have hlate := Z.late_bits (s := v) (by omega)
      have hbm : (Z.bitsN v : Int) - 4 = ((Z.bitsN v - 4 : Nat) : Int) := by omega
      repeat' (first | (refine pc_model_Late (Late_ok _ ?_); rw [e14]) | refine pIf_f ?_ | refine pN_via (by (intro K; simp (disch := omega) only [go_sem, pN_min, pN_max, w_u32, w_u64, Option.isNone_some, Option.isNone_none]; (try simp only [wrap_u32, wrap_u64]); rfl)) ?_ | fail)
      rw [hbm]
      refine pc_lzdec_reader_direct (rdirect_ok (hS.fd2 (cel r) (Rsd p B dd q)) hB (Z.bitsN v - 4) (by omega) fun z2 u w g2 u0 u1 hS => ?_)
      have hub : (2 : Int) ^ (Z.bitsN v - 4) ≤ 2 ^ 26 := two_le' (by omega)
      have e26 : (2 : Int) ^ 26 = 67108864 := by decide
      repeat' (first | refine pN_l hS (by first | rfl | assumption) ?_ | refine pN_via (by (intro K; simp (disch := omega) only [go_sem, pN_min, pN_max, w_u32, w_u64, Option.isNone_some, Option.isNone_none]; (try simp only [wrap_u32, wrap_u64]); rfl)) ?_ | fail)
      refine pc_lzdec_reader_back (rback_ok (hS.fd2 (cel r) (Rsd p B dd q)) hp hB 17 (by decide) 0 4 ⟨by omega, by omega, by omega, by omega, by show (2 : Int) ^ 4 ≤ _; omega⟩ fun z3 a w g3 a0 a1 hS => ?_)
      rw [e4] at a1
      repeat' (first | refine pN_via (by (intro K; simp (disch := omega) only [go_sem, pN_min, pN_max, w_u32, w_u64, Option.isNone_some, Option.isNone_none]; (try simp only [wrap_u32, wrap_u64]); rfl)) ?_ | fail)
      refine hQ z3 _ _ (Z.Got.bind g1 ?_) (by omega) (by omega) hS.to
      rw [if_neg (by omega), if_neg h14]
      exact Z.Got.bind g2 g3.map

set_option maxHeartbeats 2000000 in
theorem rliteral_ok (hp : p.Ok) (hs : s.Right) (hB : B.length ≤ 225000000000000) (hx : x.all.length ≤ 4611686018427387904)
    (hS : Sat E w (cel r ⟨233, rdCells dec dd z.isNone⟩ :: Rsd p B dd q z :: cel dec ⟨171, dcCells t wd f⟩ :: cel t ⟨141, tbCells p s q⟩ :: Win wd x :: M))
    (hQ : ∀ y v w, Z.Got (Z.litRd p s x) z y v → 0 ≤ v → v < 256 → Sat E w (cel r ⟨233, rdCells dec dd y.isNone⟩ :: Rsd p B dd q y :: cel dec ⟨171, dcCells t wd f⟩ :: cel t ⟨141, tbCells p s q⟩ :: Win wd x :: M) → Q (.int .i64 v) w) :
    Calls Tryz.prog 168 #[pz r] w (retP Q) := by
  refine lzdec_reader_literal.calls ?_
  unfold lzdec_reader_literal.F
  have last : ∀ {w : World} {M : List HA} {Q : Value → World → Prop} (d : Int), Sat E w (Win wd x :: M) → (∀ (e : Int) w, Sat E w (Win wd x :: M) → Q (.tuple #[bv (Z.lastOr x d), .int .i64 e]) w) → Calls Tryz.prog 101 #[pz wd, .int .i64 d] w (retP Q) := by
    intro w M Q d hS hQ
    unfold Z.lastOr at hQ
    by_cases h : x.has d
    · rw [if_pos h] at hQ
      exact Last_in hS d h fun w hS => hQ 0 w hS
    · rw [if_neg h] at hQ
      exact Last_no hS d h fun w hS => hQ 7 w hS
  have hb1 := (Z.lastOr x 1).toNat_lt
  have hc := context_bd hp x.all.length (Z.lastOr x 1).toNat (by omega) (by omega)
  have tl := Z.tabLen_bd hp 6
  have e8 : (2 : Int) ^ 8 = 256 := by decide
  unfold Z.litRd at hQ
  generalize hf : Z.context p x.all.length (Z.lastOr x 1).toNat = fr at *
  by_cases h7 : s.num < 7
  · rw [if_pos h7] at hQ
    have e7 : decide (s.num < 7) = true := decide_eq_true h7
    repeat' (first | (refine pc_window_Window_Pos (Pos_ok (hS.fd (Win wd)) ?_); clear hS; intro w hS) | (refine pc_window_Window_Last (last _ (hS.fd (Win wd)) ?_); clear hS; intro er w hS) | (refine pc_model_Tables_Context (Context_ok (hS.fd (cel t)) hp _ (by omega) (by omega) _ ?_); rw [hf]; clear hS; intro w hS) | (refine pN_la_at (n := 5) hS s.cells rfl rfl ?_) | (refine pc_state_State_Literal (SLiteral_ok hS hs ?_); rw [e7]; clear hS; intro w hS) | refine pIf_t ?_ | refine pN_l hS (by first | rfl | assumption) ?_ | refine pL_l hS (by first | rfl | assumption) ?_ | (refine pDr_go hS ?_; clear hS; intro w hS) | refine ⟨trivial, ?_⟩ | refine ⟨⟨(by first | exact run_l hS (by first | rfl | assumption) | exact run_st hS (by first | rfl | omega) | exact run_ld1 ha hS | exact fun _ => run_l hS (by rfl) | exact fun _ => run_st hS (by first | rfl | omega) | exact fun _ => run_ld1 ha hS | exact fun h => Bool.noConfusion h), (by first | exact run_l hS (by first | rfl | assumption) | exact run_st hS (by first | rfl | omega) | exact run_ld1 ha hS | exact fun _ => run_l hS (by rfl) | exact fun _ => run_st hS (by first | rfl | omega) | exact fun _ => run_ld1 ha hS | exact fun h => Bool.noConfusion h), trivial⟩, ?_⟩ | refine pN_via (by (intro K; simp (disch := omega) only [go_sem, pN_min, pN_max, w_u32, w_u64, Option.isNone_some, Option.isNone_none]; (try simp only [wrap_u32, wrap_u64]); rfl)) ?_ | refine pA_via (by (intro K; simp (disch := omega) only [go_sem, pN_min, pN_max, w_u32, w_u64, Option.isNone_some, Option.isNone_none]; (try simp only [wrap_u32, wrap_u64]); rfl)) ?_ | fail)
    refine pc_lzdec_reader_tree (rtree_ok (hS.fd2 (cel r) (Rsd p B dd q)) hp hB 6 (by decide) _ 8 ⟨by omega, by omega, by omega, by omega, by show (2 : Int) ^ 8 ≤ _; omega⟩ fun z2 v2 w g2 v0 v1 hS => ?_)
    rw [e8] at v1
    skip
    exact hQ z2 _ _ g2 v0 v1 hS.to
  · rw [if_neg h7] at hQ
    have e7 : decide (s.num < 7) = false := decide_eq_false h7
    repeat' (first | (refine pc_window_Window_Pos (Pos_ok (hS.fd (Win wd)) ?_); clear hS; intro w hS) | (refine pc_window_Window_Last (last _ (hS.fd (Win wd)) ?_); clear hS; intro er w hS) | (refine pc_model_Tables_Context (Context_ok (hS.fd (cel t)) hp _ (by omega) (by omega) _ ?_); rw [hf]; clear hS; intro w hS) | (refine pN_la_at (n := 5) hS s.cells rfl rfl ?_) | (refine pc_state_State_Literal (SLiteral_ok hS hs ?_); rw [e7]; clear hS; intro w hS) | refine pIf_f ?_ | refine pN_l hS (by first | rfl | assumption) ?_ | refine pL_l hS (by first | rfl | assumption) ?_ | (refine pDr_go hS ?_; clear hS; intro w hS) | refine ⟨trivial, ?_⟩ | refine ⟨⟨(by first | exact run_l hS (by first | rfl | assumption) | exact run_st hS (by first | rfl | omega) | exact run_ld1 ha hS | exact fun _ => run_l hS (by rfl) | exact fun _ => run_st hS (by first | rfl | omega) | exact fun _ => run_ld1 ha hS | exact fun h => Bool.noConfusion h), (by first | exact run_l hS (by first | rfl | assumption) | exact run_st hS (by first | rfl | omega) | exact run_ld1 ha hS | exact fun _ => run_l hS (by rfl) | exact fun _ => run_st hS (by first | rfl | omega) | exact fun _ => run_ld1 ha hS | exact fun h => Bool.noConfusion h), trivial⟩, ?_⟩ | refine pN_via (by (intro K; simp (disch := omega) only [go_sem, pN_min, pN_max, w_u32, w_u64, Option.isNone_some, Option.isNone_none]; (try simp only [wrap_u32, wrap_u64]); rfl)) ?_ | refine pA_via (by (intro K; simp (disch := omega) only [go_sem, pN_min, pN_max, w_u32, w_u64, Option.isNone_some, Option.isNone_none]; (try simp only [wrap_u32, wrap_u64]); rfl)) ?_ | fail)
    generalize hu : ((Z.lastOr x s.r0).toNat : Int) = u at *
    have hu0 : 0 ≤ u ∧ u < 256 := by have := (Z.lastOr x s.r0).toNat_lt; omega
    refine ⟨fun m sm i w => ∃ (k : Nat) (m' : Int) (same : Bool) (z1 : Option Z.RS), sm = .bool same ∧ i = .int .i64 ((k : Int) - 1) ∧ m = .int .i64 m' ∧ k ≤ 8 ∧ 1 ≤ m' ∧ 2 ^ (8 - k) ≤ m' ∧ m' < 2 ^ (9 - k) ∧ (∀ y v, Z.Got (Z.litGoRd fr u k m' same) z1 y v → Z.Got (Z.litGoRd fr u 8 1 true) z y v) ∧
      Sat E w (cel r ⟨233, rdCells dec dd z1.isNone⟩ :: Rsd p B dd q z1 :: cel dec ⟨171, dcCells t wd f⟩ :: cel t ⟨141, tbCells p s q⟩ :: Win wd x :: M), fun _ _ i _ => (RowKit.intOf i + 1).toNat, ⟨8, 1, true, z, rfl, rfl, rfl, by omega, by omega, by decide, by decide, fun _ _ h => h, hS.to⟩, ?_⟩
    clear hS
    rintro _ _ _ _ w ⟨k, m', same, z1, rfl, rfl, rfl, hk8, hm1, hm0, hm2, hgo, hS⟩
    cases k with
    | zero =>
      have e9 : (2 : Int) ^ 9 = 512 := by decide
      rw [show 8 - 0 = 8 from rfl, e8] at hm0
      rw [show 9 - 0 = 9 from rfl, e9] at hm2
      repeat' (first | (refine pN_geq_s ?_ ?_ <;> intro hc <;> try (exfalso; omega)) | refine pIf_f ?_ | refine pN_via (by (intro K; simp (disch := omega) only [go_sem, pN_min, pN_max, w_u32, w_u64, Option.isNone_some, Option.isNone_none]; (try simp only [wrap_u32, wrap_u64]); rfl)) ?_ | fail)
      exact hQ z1 _ _ (hgo z1 _ (Z.Got.ret _ _)) (by omega) (by omega) hS.to
    | succ i =>
      have ei : ((i + 1 : Nat) : Int) - 1 = (i : Int) := by omega
      rw [ei]
      have hub : 0 ≤ u / 2 ^ i % 2 ∧ u / 2 ^ i % 2 ≤ 1 := by omega
      have e9 : (2 : Int) ^ (9 - i) = 2 ^ (9 - (i + 1)) * 2 := by rw [show 9 - i = (9 - (i + 1)) + 1 from by omega, Int.pow_succ]
      have e10 : (2 : Int) ^ (8 - i) = 2 ^ (8 - (i + 1)) * 2 := by rw [show 8 - i = (8 - (i + 1)) + 1 from by omega, Int.pow_succ]
      have hm8 : m' < 256 := by
        have : (2 : Int) ^ (9 - (i + 1)) ≤ 2 ^ 8 := two_le' (by omega)
        omega
      have h1le : i ≤ 64 := by omega
      repeat' (first | (refine pN_geq_s ?_ ?_ <;> intro hc <;> try (exfalso; omega)) | refine pIf_t ?_ | fail)
      refine ⟨fun m sm w => ∃ (b : Int) (z2 : Option Z.RS), (b = 0 ∨ b = 1) ∧ m = .int .i64 (2 * m' + b) ∧ sm = .bool (same && decide (b = u / 2 ^ i % 2)) ∧ (∀ y v, Z.Got (Z.litGoRd fr u i (2 * m' + b) (same && decide (b = u / 2 ^ i % 2))) z2 y v → Z.Got (Z.litGoRd fr u 8 1 true) z y v) ∧ Sat E w (cel r ⟨233, rdCells dec dd z2.isNone⟩ :: Rsd p B dd q z2 :: cel dec ⟨171, dcCells t wd f⟩ :: cel t ⟨141, tbCells p s q⟩ :: Win wd x :: M), ?_, ?_⟩
      · repeat' (first | refine pA_shr_k i rfl h1le ?_ | refine pL_ofb ?_ | (refine pDr_go hS ?_; clear hS; intro w hS) | refine pA_via (by (intro K; simp (disch := omega) only [go_sem, pN_min, pN_max, w_u32, w_u64, Option.isNone_some, Option.isNone_none]; (try simp only [wrap_u32, wrap_u64]); rfl)) ?_ | fail)
        simp only [hu]
        generalize hub2 : u / 2 ^ i % 2 = ub at *
        refine ⟨fun v w => v = .int .i64 (fr + m' + if same = true then 256 * (1 + ub) else 0) ∧ Sat E w (cel r ⟨233, rdCells dec dd z1.isNone⟩ :: Rsd p B dd q z1 :: cel dec ⟨171, dcCells t wd f⟩ :: cel t ⟨141, tbCells p s q⟩ :: Win wd x :: M), ?_, ?_⟩
        · cases same
          · repeat' (first | refine pIf_f ?_ | fail)
            exact ⟨by simp, hS.to⟩
          · repeat' (first | refine pIf_t ?_ | refine pN_via (by (intro K; simp (disch := omega) only [go_sem, pN_min, pN_max, w_u32, w_u64, Option.isNone_some, Option.isNone_none]; (try simp only [wrap_u32, wrap_u64]); rfl)) ?_ | fail)
            exact ⟨by simp, hS.to⟩
        clear hS
        rintro _ _ w ⟨rfl, hS⟩
        repeat' (first | refine pN_l hS (by first | rfl | assumption) ?_ | refine pN_via (by (intro K; simp (disch := omega) only [go_sem, pN_min, pN_max, w_u32, w_u64, Option.isNone_some, Option.isNone_none]; (try simp only [wrap_u32, wrap_u64]); rfl)) ?_ | fail)
        refine pc_lzdec_reader_bit (rbit_ok (hS.fd2 (cel r) (Rsd p B dd q)) hB 6 (by decide) _ (by split <;> omega) (by split <;> omega) fun z2 b w g hb hS => ?_)
        have hgo2 : ∀ y v, Z.Got (Z.litGoRd fr u i (2 * m' + b) (same && decide (b = ub))) z2 y v → Z.Got (Z.litGoRd fr u 8 1 true) z y v := fun y v h => hgo y v (by rw [Z.litGoRd, hub2]; exact Z.Got.bit g h)
        cases same
        · rcases hb with rfl | rfl
          · repeat' (first | refine pGd_no (by rfl) ?_ | refine pN_via (by (intro K; simp (disch := omega) only [go_sem, pN_min, pN_max, w_u32, w_u64, Option.isNone_some, Option.isNone_none]; (try simp only [wrap_u32, wrap_u64]); rfl)) ?_ | fail)
            exact ⟨_, z2, .inl rfl, rfl, rfl, hgo2, hS.to⟩
          · repeat' (first | refine pGd_no (by rfl) ?_ | refine pN_via (by (intro K; simp (disch := omega) only [go_sem, pN_min, pN_max, w_u32, w_u64, Option.isNone_some, Option.isNone_none]; (try simp only [wrap_u32, wrap_u64]); rfl)) ?_ | fail)
            exact ⟨_, z2, .inr rfl, rfl, rfl, hgo2, hS.to⟩
        · rcases hb with rfl | rfl
          · repeat' (first | (refine pN_eql_s ?_ ?_ <;> intro hc <;> try (exfalso; first | omega | exact hc rfl | exact hc (by assumption) | exact absurd hc (by assumption))) | refine pGd_go (by rfl) ?_ | refine pN_via (by (intro K; simp (disch := omega) only [go_sem, pN_min, pN_max, w_u32, w_u64, Option.isNone_some, Option.isNone_none]; (try simp only [wrap_u32, wrap_u64]); rfl)) ?_ | fail)
            · exact ⟨_, z2, .inl rfl, rfl, by rw [decide_eq_true hc]; rfl, hgo2, hS.to⟩
            · exact ⟨_, z2, .inl rfl, rfl, by rw [decide_eq_false hc]; rfl, hgo2, hS.to⟩
          · repeat' (first | (refine pN_eql_s ?_ ?_ <;> intro hc <;> try (exfalso; first | omega | exact hc rfl | exact hc (by assumption) | exact absurd hc (by assumption))) | refine pGd_go (by rfl) ?_ | refine pN_via (by (intro K; simp (disch := omega) only [go_sem, pN_min, pN_max, w_u32, w_u64, Option.isNone_some, Option.isNone_none]; (try simp only [wrap_u32, wrap_u64]); rfl)) ?_ | fail)
            · exact ⟨_, z2, .inr rfl, rfl, by rw [decide_eq_true hc]; rfl, hgo2, hS.to⟩
            · exact ⟨_, z2, .inr rfl, rfl, by rw [decide_eq_false hc]; rfl, hgo2, hS.to⟩
      · clear hS
        rintro _ _ _ w ⟨b, z2, hb, rfl, rfl, hgo2, hS⟩
        repeat' (first | refine pN_via (by (intro K; simp (disch := omega) only [go_sem, pN_min, pN_max, w_u32, w_u64, Option.isNone_some, Option.isNone_none]; (try simp only [wrap_u32, wrap_u64]); rfl)) ?_ | fail)
        exact ⟨⟨i, _, _, z2, rfl, rfl, rfl, by omega, by omega, by omega, by omega, hgo2, hS⟩, by simp [RowKit.intOf] <;> omega⟩
end

end Go.Proofs.YtbgnnjfpiblkmaaGreatDoor

namespace Go.Proofs.YtbgnnjfpiblkmaaGreatDoor
open Go
set_option linter.unusedSimpArgs false
set_option linter.unnecessarySimpa false
set_option linter.unusedSectionVars false
set_option linter.unusedVariables false
attribute [local irreducible] oMv oV oU oCall oCallV oBi oBin oUn oLoad oStore oNil oFld oField oIdx oIndex oPick oAlloc oBox oBuild oBs oConv oMk oSl oExt oFn oIface oMap oLook oMapUp oRange oNext oEntry oInv oAssert oPanic oRes pN pA pL pDr pIf gA pGd

section
variable {E w W : World} {M N : List HA} {Q : Value → World → Prop} {p : Z.Pr} {s : Z.St} {x : Z.W} {B : List UInt8} {r dec dd t wd : Nat} {q : Nat → Nat} {z : Option Z.RS} {f : Bool}

set_option maxHeartbeats 4000000 in
theorem rsymbol_ok (hp : p.Ok) (hs : s.Right) (hB : B.length ≤ 225000000000000) (hx : x.all.length ≤ 4611686018427387904)
    (hS : Sat E w (cel r ⟨233, rdCells dec dd z.isNone⟩ :: Rsd p B dd q z :: cel dec ⟨171, dcCells t wd f⟩ :: cel t ⟨141, tbCells p s q⟩ :: Win wd x :: M))
    (hQ : ∀ y v w, Z.Got (Z.symRd p s x) z y v → Sat E w (cel r ⟨233, rdCells dec dd y.isNone⟩ :: Rsd p B dd q y :: cel dec ⟨171, dcCells t wd f⟩ :: cel t ⟨141, tbCells p s q⟩ :: Win wd x :: M) → Q (.agg #[.int .i64 v.Kind, bv v.Byte, .int .i64 v.Len, .int .i64 v.Dist]) w) :
    Calls Tryz.prog 134 #[pz r] w (retP Q) := by
  refine lzdec_reader_symbol.calls ?_
  unfold lzdec_reader_symbol.F
  have hpl := place_bd hp x.all.length
  have hn := hs.num
  have t0 : Z.tabLen p 0 = 192 := rfl
  have t1 : Z.tabLen p 1 = 192 := rfl
  have t2 : Z.tabLen p 2 = 12 := rfl
  have t3 : Z.tabLen p 3 = 12 := rfl
  have t4 : Z.tabLen p 4 = 12 := rfl
  have t5 : Z.tabLen p 5 = 12 := rfl
  repeat' (first | (refine pc_window_Window_Pos (Pos_ok (hS.fd (Win wd)) ?_); clear hS; intro w hS) | (refine pc_model_Tables_At (MAt_ok (hS.fd (cel t)) hp hs _ (by omega) (by omega) ?_); clear hS; intro w hS) | refine ⟨⟨run_l hS (by rfl), run_l hS (by rfl), run_l hS (by rfl), run_l hS (by rfl), run_l hS (by rfl), trivial⟩, ?_⟩ | refine pN_l hS (by first | rfl | assumption) ?_ | refine pL_l hS (by first | rfl | assumption) ?_ | (refine pDr_go hS ?_; clear hS; intro w hS) | (refine pN_nz hS ?_; clear hS; intro a w hS) | refine ⟨⟨(by first | exact run_l hS (by first | rfl | assumption) | exact run_st hS (by first | rfl | omega) | exact run_ld1 ha hS | exact fun _ => run_l hS (by rfl) | exact fun _ => run_st hS (by first | rfl | omega) | exact fun _ => run_ld1 ha hS | exact fun h => Bool.noConfusion h), (by first | exact run_l hS (by first | rfl | assumption) | exact run_st hS (by first | rfl | omega) | exact run_ld1 ha hS | exact fun _ => run_l hS (by rfl) | exact fun _ => run_st hS (by first | rfl | omega) | exact fun _ => run_ld1 ha hS | exact fun h => Bool.noConfusion h), (by first | exact run_l hS (by first | rfl | assumption) | exact run_st hS (by first | rfl | omega) | exact run_ld1 ha hS | exact fun _ => run_l hS (by rfl) | exact fun _ => run_st hS (by first | rfl | omega) | exact fun _ => run_ld1 ha hS | exact fun h => Bool.noConfusion h), trivial⟩, ?_⟩ | refine pN_via (by (intro K; simp (disch := omega) only [go_sem, pN_min, pN_max, w_u32, w_u64, Option.isNone_some, Option.isNone_none]; (try simp only [wrap_u32, wrap_u64]); rfl)) ?_ | refine pA_via (by (intro K; simp (disch := omega) only [go_sem, pN_min, pN_max, w_u32, w_u64, Option.isNone_some, Option.isNone_none]; (try simp only [wrap_u32, wrap_u64]); rfl)) ?_ | fail)
  refine pc_lzdec_reader_bit (rbit_ok (hS.fd2 (cel r) (Rsd p B dd q)) hB 0 (by decide) _ (by omega) (by omega) fun z1 b1 w g1 hb1 hS => ?_)
  rcases hb1 with rfl | rfl
  · repeat' (first | (refine pN_eql_s ?_ ?_ <;> intro hc <;> try (exfalso; first | omega | exact hc rfl | exact hc (by assumption) | exact absurd hc (by assumption))) | refine pIf_t ?_ | fail)
    refine pc_lzdec_reader_literal (rliteral_ok hp hs hB hx (hS.fd5 (cel r) (Rsd p B dd q) (cel dec) (cel t) (Win wd)) fun z2 v w g2 v0 v1 hS => ?_)
    repeat' (first | refine pN_tob ?_ | refine pL_ra hS (by rfl) ?_ | (refine pN_sa hS (by rfl) (by rfl) (by rfl) ?_; clear hS; intro w hS; try dsimp only at hS) | refine pN_via (by (intro K; simp (disch := omega) only [go_sem, pN_min, pN_max, w_u32, w_u64, Option.isNone_some, Option.isNone_none]; (try simp only [wrap_u32, wrap_u64]); rfl)) ?_ | fail)
    exact hQ z2 ⟨1, byteOf v, 0, 0⟩ _ (Z.Got.bit g1 (by rw [if_pos rfl]; exact g2.map)) hS.to
  repeat' (first | (refine pN_eql_s ?_ ?_ <;> intro hc <;> try (exfalso; first | omega | exact hc rfl | exact hc (by assumption) | exact absurd hc (by assumption))) | refine pIf_f ?_ | refine pN_l hS (by first | rfl | assumption) ?_ | refine pN_via (by (intro K; simp (disch := omega) only [go_sem, pN_min, pN_max, w_u32, w_u64, Option.isNone_some, Option.isNone_none]; (try simp only [wrap_u32, wrap_u64]); rfl)) ?_ | fail)
  refine pc_lzdec_reader_bit (rbit_ok (hS.fd2 (cel r) (Rsd p B dd q)) hB 2 (by decide) _ (by omega) (by omega) fun z2 b2 w g2 hb2 hS => ?_)
  rcases hb2 with rfl | rfl
  · repeat' (first | refine pN_la_at (n := 4) hS [pz (q 7), pz (q 8), pz (q 9), pz (q 10)] rfl rfl ?_ | (refine pN_eql_s ?_ ?_ <;> intro hc <;> try (exfalso; first | omega | exact hc rfl | exact hc (by assumption) | exact absurd hc (by assumption))) | refine pIf_t ?_ | refine pN_l hS (by first | rfl | assumption) ?_ | refine pN_via (by (intro K; simp (disch := omega) only [go_sem, pN_min, pN_max, w_u32, w_u64, Option.isNone_some, Option.isNone_none]; (try simp only [wrap_u32, wrap_u64]); rfl)) ?_ | fail)
    refine pc_lzdec_reader_length (rlength_ok 7 (.inl rfl) hp hB hx (hS.fd5 (cel r) (Rsd p B dd q) (cel dec) (cel t) (Win wd)) fun z3 n w g3 hn3 hS => ?_)
    skip
    refine pc_lzdec_reader_distance (rdistance_ok hn3 hp hB (hS.fd5 (cel r) (Rsd p B dd q) (cel dec) (cel t) (Win wd)) fun z4 d w g4 d0 d1 hS => ?_)
    repeat' (first | refine pL_ra hS (by rfl) ?_ | (refine pN_sa hS (by rfl) (by rfl) (by rfl) ?_; clear hS; intro w hS; try dsimp only at hS) | refine pN_via (by (intro K; simp (disch := omega) only [go_sem, pN_min, pN_max, w_u32, w_u64, Option.isNone_some, Option.isNone_none]; (try simp only [wrap_u32, wrap_u64]); rfl)) ?_ | fail)
    refine hQ z4 ⟨2, 0, n, d⟩ _ (Z.Got.bit g1 ?_) hS.to
    rw [if_neg (by decide)]
    refine Z.Got.bit g2 ?_
    rw [if_pos rfl]
    exact Z.Got.bind g3 g4.map
  repeat' (first | (refine pN_eql_s ?_ ?_ <;> intro hc <;> try (exfalso; first | omega | exact hc rfl | exact hc (by assumption) | exact absurd hc (by assumption))) | refine pIf_f ?_ | refine pN_l hS (by first | rfl | assumption) ?_ | refine pN_via (by (intro K; simp (disch := omega) only [go_sem, pN_min, pN_max, w_u32, w_u64, Option.isNone_some, Option.isNone_none]; (try simp only [wrap_u32, wrap_u64]); rfl)) ?_ | fail)
  refine pc_lzdec_reader_bit (rbit_ok (hS.fd2 (cel r) (Rsd p B dd q)) hB 3 (by decide) _ (by omega) (by omega) fun z3 b3 w g3 hb3 hS => ?_)
  rcases hb3 with rfl | rfl
  · repeat' (first | (refine pN_eql_s ?_ ?_ <;> intro hc <;> try (exfalso; first | omega | exact hc rfl | exact hc (by assumption) | exact absurd hc (by assumption))) | refine pIf_t ?_ | refine pN_l hS (by first | rfl | assumption) ?_ | refine pN_via (by (intro K; simp (disch := omega) only [go_sem, pN_min, pN_max, w_u32, w_u64, Option.isNone_some, Option.isNone_none]; (try simp only [wrap_u32, wrap_u64]); rfl)) ?_ | fail)
    refine pc_lzdec_reader_bit (rbit_ok (hS.fd2 (cel r) (Rsd p B dd q)) hB 1 (by decide) _ (by omega) (by omega) fun z4 b4 w g4 hb4 hS => ?_)
    rcases hb4 with rfl | rfl
    · repeat' (first | (refine pN_eql_s ?_ ?_ <;> intro hc <;> try (exfalso; first | omega | exact hc rfl | exact hc (by assumption) | exact absurd hc (by assumption))) | refine pIf_t ?_ | refine pL_ra hS (by rfl) ?_ | (refine pN_sa hS (by rfl) (by rfl) (by rfl) ?_; clear hS; intro w hS; try dsimp only at hS) | refine pN_via (by (intro K; simp (disch := omega) only [go_sem, pN_min, pN_max, w_u32, w_u64, Option.isNone_some, Option.isNone_none]; (try simp only [wrap_u32, wrap_u64]); rfl)) ?_ | fail)
      refine hQ z4 ⟨4, 0, 0, 0⟩ _ (Z.Got.bit g1 ?_) hS.to
      rw [if_neg (by decide)]
      refine Z.Got.bit g2 ?_
      rw [if_neg (by decide)]
      refine Z.Got.bit g3 ?_
      rw [if_pos rfl]
      refine Z.Got.bit g4 ?_
      rw [if_pos rfl]
      exact Z.Got.ret _ _
    · repeat' (first | refine pN_la_at (n := 4) hS [pz (q 11), pz (q 12), pz (q 13), pz (q 14)] rfl rfl ?_ | (refine pN_eql_s ?_ ?_ <;> intro hc <;> try (exfalso; first | omega | exact hc rfl | exact hc (by assumption) | exact absurd hc (by assumption))) | refine pIf_f ?_ | refine pN_l hS (by first | rfl | assumption) ?_ | refine pN_via (by (intro K; simp (disch := omega) only [go_sem, pN_min, pN_max, w_u32, w_u64, Option.isNone_some, Option.isNone_none]; (try simp only [wrap_u32, wrap_u64]); rfl)) ?_ | fail)
      refine pc_lzdec_reader_length (rlength_ok 11 (.inr rfl) hp hB hx (hS.fd5 (cel r) (Rsd p B dd q) (cel dec) (cel t) (Win wd)) fun z5 n w g5 hn5 hS => ?_)
      repeat' (first | refine pL_ra hS (by rfl) ?_ | (refine pN_sa hS (by rfl) (by rfl) (by rfl) ?_; clear hS; intro w hS; try dsimp only at hS) | refine pN_via (by (intro K; simp (disch := omega) only [go_sem, pN_min, pN_max, w_u32, w_u64, Option.isNone_some, Option.isNone_none]; (try simp only [wrap_u32, wrap_u64]); rfl)) ?_ | fail)
      refine hQ z5 ⟨3, 0, n, 0⟩ _ (Z.Got.bit g1 ?_) hS.to
      rw [if_neg (by decide)]
      refine Z.Got.bit g2 ?_
      rw [if_neg (by decide)]
      refine Z.Got.bit g3 ?_
      rw [if_pos rfl]
      refine Z.Got.bit g4 ?_
      rw [if_neg (by decide)]
      exact g5.map
  repeat' (first | (refine pN_eql_s ?_ ?_ <;> intro hc <;> try (exfalso; first | omega | exact hc rfl | exact hc (by assumption) | exact absurd hc (by assumption))) | refine pIf_f ?_ | fail)
  refine ⟨fun i w => ∃ (d : Int) (z4 : Option Z.RS), i = .int .i64 d ∧ (∀ y v, Z.Got (Z.repRd p x.all.length d) z4 y v → Z.Got (Z.symRd p s x) z y v) ∧ Sat E w (cel a ⟨48, [.int .i64 0, bv 0, .int .i64 0, .int .i64 0]⟩ :: cel r ⟨233, rdCells dec dd z4.isNone⟩ :: Rsd p B dd q z4 :: cel dec ⟨171, dcCells t wd f⟩ :: cel t ⟨141, tbCells p s q⟩ :: Win wd x :: M), ?_, ?_⟩
  · repeat' (first | refine pN_l hS (by first | rfl | assumption) ?_ | refine pN_via (by (intro K; simp (disch := omega) only [go_sem, pN_min, pN_max, w_u32, w_u64, Option.isNone_some, Option.isNone_none]; (try simp only [wrap_u32, wrap_u64]); rfl)) ?_ | fail)
    refine pc_lzdec_reader_bit (rbit_ok (hS.fd2 (cel r) (Rsd p B dd q)) hB 4 (by decide) _ (by omega) (by omega) fun z4 b4 w g4 hb4 hS => ?_)
    rcases hb4 with rfl | rfl
    · repeat' (first | (refine pN_eql_s ?_ ?_ <;> intro hc <;> try (exfalso; first | omega | exact hc rfl | exact hc (by assumption) | exact absurd hc (by assumption))) | refine pIf_f ?_ | fail)
      refine ⟨1, z4, rfl, fun y v h => Z.Got.bit g1 ?_, hS.to⟩
      rw [if_neg (by decide)]
      refine Z.Got.bit g2 ?_
      rw [if_neg (by decide)]
      refine Z.Got.bit g3 ?_
      rw [if_neg (by decide)]
      refine Z.Got.bit g4 ?_
      rw [if_pos rfl]
      exact h
    · repeat' (first | (refine pN_eql_s ?_ ?_ <;> intro hc <;> try (exfalso; first | omega | exact hc rfl | exact hc (by assumption) | exact absurd hc (by assumption))) | refine pIf_t ?_ | refine pN_l hS (by first | rfl | assumption) ?_ | refine pN_via (by (intro K; simp (disch := omega) only [go_sem, pN_min, pN_max, w_u32, w_u64, Option.isNone_some, Option.isNone_none]; (try simp only [wrap_u32, wrap_u64]); rfl)) ?_ | fail)
      refine pc_lzdec_reader_bit (rbit_ok (hS.fd2 (cel r) (Rsd p B dd q)) hB 5 (by decide) _ (by omega) (by omega) fun z5 b5 w g5 hb5 hS => ?_)
      repeat' (first | refine pN_via (by (intro K; simp (disch := omega) only [go_sem, pN_min, pN_max, w_u32, w_u64, Option.isNone_some, Option.isNone_none]; (try simp only [wrap_u32, wrap_u64]); rfl)) ?_ | fail)
      refine ⟨2 + b5, z5, rfl, fun y v h => Z.Got.bit g1 ?_, hS.to⟩
      rw [if_neg (by decide)]
      refine Z.Got.bit g2 ?_
      rw [if_neg (by decide)]
      refine Z.Got.bit g3 ?_
      rw [if_neg (by decide)]
      refine Z.Got.bit g4 ?_
      rw [if_neg (by decide)]
      exact Z.Got.bit g5 h
  · clear hS
    rintro _ _ w ⟨d, z4, rfl, hgo, hS⟩
    repeat' (first | refine pN_la_at (n := 4) hS [pz (q 11), pz (q 12), pz (q 13), pz (q 14)] rfl rfl ?_ | refine pN_l hS (by first | rfl | assumption) ?_ | refine pN_via (by (intro K; simp (disch := omega) only [go_sem, pN_min, pN_max, w_u32, w_u64, Option.isNone_some, Option.isNone_none]; (try simp only [wrap_u32, wrap_u64]); rfl)) ?_ | fail)
    refine pc_lzdec_reader_length (rlength_ok 11 (.inr rfl) hp hB hx (hS.fd5 (cel r) (Rsd p B dd q) (cel dec) (cel t) (Win wd)) fun z5 n w g5 hn5 hS => ?_)
    repeat' (first | refine pL_ra hS (by rfl) ?_ | (refine pN_sa hS (by rfl) (by rfl) (by rfl) ?_; clear hS; intro w hS; try dsimp only at hS) | refine pN_via (by (intro K; simp (disch := omega) only [go_sem, pN_min, pN_max, w_u32, w_u64, Option.isNone_some, Option.isNone_none]; (try simp only [wrap_u32, wrap_u64]); rfl)) ?_ | fail)
    exact hQ z5 ⟨3, 0, n, d⟩ _ (hgo _ _ g5.map) hS.to
end

end Go.Proofs.YtbgnnjfpiblkmaaGreatDoor

namespace Go.Proofs.YtbgnnjfpiblkmaaGreatDoor
open Go
set_option linter.unusedSimpArgs false
set_option linter.unnecessarySimpa false
set_option linter.unusedSectionVars false
set_option linter.unusedVariables false

theorem pN_ifc {en : Nat} {w : World} {K : Value → World → Prop} (hk : K (codingV en) w) : pN Tryz.prog (oIface 136 (.agg #[pz en])) w K := by
  have : (oIface 136 (.agg #[pz en])).run Tryz.prog w = .ok (.value (codingV en)) w := by kernel_rfl
  rw [pN_def, this, rN_value]; exact hk
def LEnc (b : Nat) (e : Z.EZ) : HA := fun h => ∃ k : Nat × Nat × Nat × (Nat → Nat), e.Ok ∧ Sats [cel b ⟨128, encCells k.1 k.2.1 k.2.2.1⟩, cel k.1 ⟨141, tbCells e.p e.st k.2.2.2⟩, Win k.2.1 e.x, Enc k.2.2.1 e.s, tabs k.2.2.2 e.T] h
section
variable {E w : World} {M : List HA} {b t wd en : Nat} {q : Nat → Nat} {e : Z.EZ}
theorem LEnc.opn (hS : Sat E w (LEnc b e :: M)) : e.Ok ∧ ∃ t wd en q, Sat E w (cel b ⟨128, encCells t wd en⟩ :: cel t ⟨141, tbCells e.p e.st q⟩ :: Win wd e.x :: Enc en e.s :: tabs q e.T :: M) := by
  obtain ⟨k, hS⟩ := hS.ex
  obtain ⟨h1, ⟨hA, _⟩, _⟩ := hS.head
  exact ⟨hA, k.1, k.2.1, k.2.2.1, k.2.2.2, hS.open_ (M := [_, _, _, _, _]) fun _ h => h.2⟩
theorem LEnc.shut (hS : Sat E w (cel b ⟨128, encCells t wd en⟩ :: cel t ⟨141, tbCells e.p e.st q⟩ :: Win wd e.x :: Enc en e.s :: tabs q e.T :: M)) (he : e.Ok) : Sat E w (LEnc b e :: M) :=
  Sat.shut (M := [_, _, _, _, _]) hS fun _ h => ⟨(t, wd, en, q), he, h⟩
theorem cel_conv {E w : World} {M : List HA} {t : Nat} {o o' : Ob} (h : o = o') (hS : Sat E w (cel t o :: M)) : Sat E w (cel t o' :: M) := h ▸ hS
end
attribute [local irreducible] oMv oV oU oCall oCallV oBi oBin oUn oLoad oStore oNil oFld oField oIdx oIndex oPick oAlloc oBox oBuild oBs oConv oMk oSl oExt oFn oIface oMap oLook oMapUp oRange oNext oEntry oInv oAssert oPanic oRes pN pA pL pDr pIf gA pGd

section
variable {E w W : World} {M N : List HA} {Q : Value → World → Prop} {b : Nat} {e : Z.EZ} {y : Z.Y}

theorem LNew_in {p : Z.Pr} (hS : Sat E w M) (hp : p.Ok) (d : Int) (h0 : 1 ≤ d) (h1 : d ≤ 4294967295) (hQ : ∀ b w, Sat E w (LEnc b (Z.EZ.new p d) :: M) → Q (.tuple #[pz b, .int .i64 0]) w) :
    Calls Tryz.prog 13 #[.agg #[.int .i64 p.lc, .int .i64 p.lp, .int .i64 p.pb], .int .i64 d] w (retP Q) := by
  refine lzenc_New.calls ?_
  unfold lzenc_New.F
  repeat' (first | (refine pc_state_PropsByte (PropsByte_in p hp hS ?_); clear hS; intro w hS) | (refine pc_window_New (WNew_in hS d h0 h1 ?_); clear hS; intro wd w hS) | (refine pc_model_New (MNew_ok hp hS ?_); clear hS; intro t q w hS) | (refine pc_rcenc_New (NewE_ok hS ?_); clear hS; intro en w hS) | (refine pN_neq_s ?_ ?_ <;> intro hc <;> try (exfalso; first | omega | exact hc rfl | exact hc (by assumption) | exact absurd hc (by assumption))) | refine pIf_f ?_ | refine pN_la hS (by rfl) ?_ | (refine pN_bx hS (by rfl) ?_; clear hS; intro a w hS) | refine pN_via (by (intro K; simp (disch := omega) only [go_sem, pN_min, pN_max, w_u32, w_u64, Option.isNone_some, Option.isNone_none]; (try simp only [wrap_u32, wrap_u64]); rfl)) ?_ | fail)
  exact hQ _ _ (LEnc.shut (e := ⟨p, Z.St.new, Z.T0 p, ⟨d, []⟩, R.S.new⟩) (t := t) (wd := wd) (en := en) (q := q) hS.to (Z.EZ.Ok.new hp d))
theorem LNew_no {p : Z.Pr} (hS : Sat E w M) (d : Int) (hpb : -9223372036854775808 ≤ p.lc ∧ p.lc < 9223372036854775808) (h : ¬ (p.Ok ∧ 1 ≤ d ∧ d ≤ 4294967295)) (hQ : ∀ w, Sat E w M → Q (.tuple #[.pointer none, .int .i64 (if p.Ok then 7 else 6)]) w) :
    Calls Tryz.prog 13 #[.agg #[.int .i64 p.lc, .int .i64 p.lp, .int .i64 p.pb], .int .i64 d] w (retP Q) := by
  refine lzenc_New.calls ?_
  unfold lzenc_New.F
  by_cases hp : p.Ok
  · rw [if_pos hp] at hQ
    repeat' (first | (refine pc_state_PropsByte (PropsByte_in p hp hS ?_); clear hS; intro w hS) | (refine pc_window_New (WNew_no d (fun hd => h ⟨hp, hd⟩) ?_)) | (refine pN_neq_s ?_ ?_ <;> intro hc <;> try (exfalso; first | omega | exact hc rfl | exact hc (by assumption) | exact absurd hc (by assumption))) | refine pIf_t ?_ | refine pIf_f ?_ | refine pN_la hS (by rfl) ?_ | (refine pN_bx hS (by rfl) ?_; clear hS; intro a w hS) | refine pN_via (by (intro K; simp (disch := omega) only [go_sem, pN_min, pN_max, w_u32, w_u64, Option.isNone_some, Option.isNone_none]; (try simp only [wrap_u32, wrap_u64]); rfl)) ?_ | fail)
    exact hQ _ hS.to
  · rw [if_neg hp] at hQ
    repeat' (first | (refine pc_state_PropsByte (PropsByte_no p hp hpb hS ?_); clear hS; intro w hS) | (refine pN_neq_s ?_ ?_ <;> intro hc <;> try (exfalso; first | omega | exact hc rfl | exact hc (by assumption) | exact absurd hc (by assumption))) | refine pIf_t ?_ | refine pN_la hS (by rfl) ?_ | (refine pN_bx hS (by rfl) ?_; clear hS; intro a w hS) | refine pN_via (by (intro K; simp (disch := omega) only [go_sem, pN_min, pN_max, w_u32, w_u64, Option.isNone_some, Option.isNone_none]; (try simp only [wrap_u32, wrap_u64]); rfl)) ?_ | fail)
    exact hQ _ hS.to

theorem LCut_ok (hS : Sat E w (LEnc b e :: M)) (hk : e.s.k + 18 ≤ 140737488355328) (hQ : ∀ s w, Sat E w (rows cd_uint8 s e.s.bytes :: LEnc b e.cut :: M) → Q (.slice s.a e.s.bytes.length s.c) w) :
    Calls Tryz.prog 21 #[pz b] w (retP Q) := by
  refine lzenc_Encoder_Cut.calls ?_
  unfold lzenc_Encoder_Cut.F
  obtain ⟨he, t, wd, en, q, hS⟩ := LEnc.opn hS
  repeat' (first | (refine pc_rcenc_Encoder_Bytes (Bytes_ok (hS.fd (Enc en)) hk ?_); clear hS; intro sl w hS) | (refine pc_rcenc_New (NewE_ok hS ?_); clear hS; intro en2 w hS) | refine pN_l hS (by first | rfl | assumption) ?_ | (refine pN_s hS (by first | exact Nat.le_of_ble_eq_true rfl | assumption) (by rfl) ?_; clear hS; intro w hS; try simp only [List.set_cons_zero, List.set_cons_succ] at hS) | refine pN_via (by (intro K; simp (disch := omega) only [go_sem, pN_min, pN_max, w_u32, w_u64, Option.isNone_some, Option.isNone_none]; (try simp only [wrap_u32, wrap_u64]); rfl)) ?_ | fail)
  have hS : Sat E w (cel b ⟨128, encCells t wd en2⟩ :: cel t ⟨141, tbCells e.p e.st q⟩ :: Win wd e.x :: Enc en2 R.S.new :: tabs q e.T :: rows cd_uint8 sl e.s.bytes :: M) := hS.to
  have hS := LEnc.shut (e := ⟨e.p, e.st, e.T, e.x, R.S.new⟩) hS he.cut
  exact hQ _ _ (hS.perm (List.Perm.swap _ _ _))

set_option maxHeartbeats 2000000 in
theorem LPut_ok (hG : Glo W) (hS : Sat E w (LEnc b e :: M)) [h : Has (old W) M N] (hn : e.x.all.length + 273 ≤ 4611686018427387904) (hk : e.s.k + 1000 ≤ 140737488355328)
    (hQ : ∀ w, Sat E w (LEnc b (e.put y) :: M) → Q (.int .i64 (e.may y)) w) :
    Calls Tryz.prog 17 #[pz b, .agg #[.int .i64 y.Kind, bv y.Byte, .int .i64 y.Len, .int .i64 y.Dist]] w (retP Q) := by
  refine lzenc_Encoder_Put.calls ?_
  unfold lzenc_Encoder_Put.F
  obtain ⟨he, t, wd, en, q, hS⟩ := LEnc.opn hS
  by_cases hm : e.may y = 0
  · have hy := Z.may_err hm
    have hput : e.put y = e.put1 y := by rw [Z.EZ.put, if_pos hm]
    have hm' : Z.may e.x e.st y = 0 := hm
    rw [hput, hm] at hQ
    repeat' (first | (refine pc_lzenc_Encoder_may (may_ok hG he.st (hS.fd3 (cel b) (cel t) (Win wd)) ?_); rw [hm']; clear hS; intro w hS) | refine pN_ifc ?_ | refine pL_la_at hS _ (by rfl) (by rfl) ?_ | refine ⟨⟨run_la_at hS _ (by rfl) (by rfl), trivial⟩, ?_⟩ | (refine pN_neq_s ?_ ?_ <;> intro hc <;> try (exfalso; first | omega | exact hc rfl | exact hc (by assumption) | exact absurd hc (by assumption))) | refine pIf_f ?_ | refine pL_l hS (by first | rfl | assumption) ?_ | refine pN_la hS (by rfl) ?_ | (refine pDr_go hS ?_; clear hS; intro w hS) | (refine pN_bx hS (by rfl) ?_; clear hS; intro a w hS) | refine pN_via (by (intro K; simp (disch := omega) only [go_sem, pN_min, pN_max, w_u32, w_u64, Option.isNone_some, Option.isNone_none]; (try simp only [wrap_u32, wrap_u64]); rfl)) ?_ | refine pA_via (by (intro K; simp (disch := omega) only [go_sem, pN_min, pN_max, w_u32, w_u64, Option.isNone_some, Option.isNone_none]; (try simp only [wrap_u32, wrap_u64]); rfl)) ?_ | fail)
    have hS := codX.shut (p := e.p) (en := en) (q := q) (z := ⟨e.s, e.T⟩) (m := []) (fun _ h => (by cases h)) (hS.hs2 (Enc en e.s) (tabs q e.T)) rfl
    refine pc_lzenc_Encoder_code (code_ok (X := codX e.p en q ⟨e.s, e.T⟩) (cod_snk he.p ⟨he.s, he.T⟩ hk) he.p he.st hy hS (by omega) fun w hS => ?_)
    obtain ⟨_, hS⟩ := codX.opn hS
    have hput1 := (he.put1 hm).1
    unfold Z.EZ.put1 Z.EZ.es Z.EZ.ops at hQ hput1
    generalize Z.runO ⟨e.s, e.T⟩ (Z.symOps e.p e.st e.x y) = zz at *
    repeat' (first | refine pL_la_at hS _ (by rfl) (by rfl) ?_ | refine ⟨trivial, ?_⟩ | refine pL_l hS (by first | rfl | assumption) ?_ | (refine pDr_go hS ?_; clear hS; intro w hS) | refine ⟨trivial, ?_⟩ | refine pA_via (by (intro K; simp (disch := omega) only [go_sem, pN_min, pN_max, w_u32, w_u64, Option.isNone_some, Option.isNone_none]; (try simp only [wrap_u32, wrap_u64]); rfl)) ?_ | fail)
    refine ⟨?_, ?_⟩
    · repeat' (first | (refine pc_symbol_Apply (Apply_in hG (hS.fd (Win wd)) he.st hm' hn ?_); clear hS; intro s' w hS) | (refine pN_sa hS (by rfl) (by rfl) (by rfl) ?_; clear hS; intro w hS; try dsimp only at hS) | (refine pN_nz hS ?_; clear hS; intro a w hS) | refine ⟨trivial, ?_⟩ | refine pA_via (by (intro K; simp (disch := omega) only [go_sem, pN_min, pN_max, w_u32, w_u64, Option.isNone_some, Option.isNone_none]; (try simp only [wrap_u32, wrap_u64]); rfl)) ?_ | fail)
      refine ⟨fun w => Sat E w (cel b ⟨128, encCells t wd en⟩ :: cel t ⟨141, tbCells e.p (e.st.next y) q⟩ :: Win wd (e.x.put (Z.made e.x e.st y)) :: Enc en zz.s :: tabs q zz.T :: M), ?_, ?_⟩
      · repeat' (first | refine pL_la_at (n := 5) hS (e.st.next y).cells rfl rfl ?_ | (refine pN_sa_at (us := (e.st.next y).cells) hS rfl (Nat.le_of_ble_eq_true rfl) rfl ?_; clear hS; intro w hS) | (refine pN_eql_s ?_ ?_ <;> intro hc <;> try (exfalso; first | omega | exact hc rfl | exact hc (by assumption) | exact absurd hc (by assumption))) | refine pIf_t ?_ | refine pL_l hS (by first | rfl | assumption) ?_ | (refine pDr_go hS ?_; clear hS; intro w hS) | refine ⟨trivial, ?_⟩ | refine pA_via (by (intro K; simp (disch := omega) only [go_sem, pN_min, pN_max, w_u32, w_u64, Option.isNone_some, Option.isNone_none]; (try simp only [wrap_u32, wrap_u64]); rfl)) ?_ | fail)
        have hS := cel_conv (o' := ⟨141, tbCells e.p (e.st.next y) q⟩) rfl hS
        exact hS.to
      · clear hS
        rintro _ w hS
        exact hQ _ (LEnc.shut (e := ⟨e.p, e.st.next y, zz.T, e.x.put (Z.made e.x e.st y), zz.s⟩) (t := t) (wd := wd) (en := en) (q := q) hS.to hput1)
    · repeat' (first | refine ⟨⟨run_la_at hS _ (by rfl) (by rfl), run_la_at (n := 5) hS e.st.cells rfl rfl, run_l hS (by rfl), run_l hS (by rfl), trivial⟩, ?_⟩ | (refine pc_symbol_Apply (Apply_in hG (hS.fd (Win wd)) he.st hm' hn ?_); clear hS; intro s' w hS) | (refine pN_sa hS (by rfl) (by rfl) (by rfl) ?_; clear hS; intro w hS; try dsimp only at hS) | (refine pN_nz hS ?_; clear hS; intro a w hS) | refine ⟨trivial, ?_⟩ | refine pA_via (by (intro K; simp (disch := omega) only [go_sem, pN_min, pN_max, w_u32, w_u64, Option.isNone_some, Option.isNone_none]; (try simp only [wrap_u32, wrap_u64]); rfl)) ?_ | fail)
      refine ⟨fun w => Sat E w (cel b ⟨128, encCells t wd en⟩ :: cel t ⟨141, tbCells e.p (e.st.next y) q⟩ :: Win wd (e.x.put (Z.made e.x e.st y)) :: Enc en zz.s :: tabs q zz.T :: M), ?_, ?_⟩
      · repeat' (first | refine pL_la_at (n := 5) hS (e.st.next y).cells rfl rfl ?_ | (refine pN_sa_at (us := (e.st.next y).cells) hS rfl (Nat.le_of_ble_eq_true rfl) rfl ?_; clear hS; intro w hS) | (refine pN_eql_s ?_ ?_ <;> intro hc <;> try (exfalso; first | omega | exact hc rfl | exact hc (by assumption) | exact absurd hc (by assumption))) | refine pIf_t ?_ | refine pL_l hS (by first | rfl | assumption) ?_ | (refine pDr_go hS ?_; clear hS; intro w hS) | refine ⟨trivial, ?_⟩ | refine pA_via (by (intro K; simp (disch := omega) only [go_sem, pN_min, pN_max, w_u32, w_u64, Option.isNone_some, Option.isNone_none]; (try simp only [wrap_u32, wrap_u64]); rfl)) ?_ | fail)
        have hS := cel_conv (o' := ⟨141, tbCells e.p (e.st.next y) q⟩) rfl hS
        exact hS.to
      · clear hS
        rintro _ w hS
        exact hQ _ (LEnc.shut (e := ⟨e.p, e.st.next y, zz.T, e.x.put (Z.made e.x e.st y), zz.s⟩) (t := t) (wd := wd) (en := en) (q := q) hS.to hput1)
  · have hput : e.put y = e := by rw [Z.EZ.put, if_neg hm]
    rw [hput] at hQ
    have hm' : ¬ Z.may e.x e.st y = 0 := hm
    repeat' (first | (refine pc_lzenc_Encoder_may (may_ok hG he.st (hS.fd3 (cel b) (cel t) (Win wd)) ?_); clear hS; intro w hS) | (refine pN_neq_s ?_ ?_ <;> intro hc <;> try (exfalso; first | omega | exact hc rfl | exact hc (by assumption) | exact absurd hc (by assumption))) | refine pIf_t ?_ | refine pN_la hS (by rfl) ?_ | (refine pN_bx hS (by rfl) ?_; clear hS; intro a w hS) | fail)
    exact hQ _ (LEnc.shut (t := t) (wd := wd) (en := en) (q := q) hS.to he)
end

end Go.Proofs.YtbgnnjfpiblkmaaGreatDoor

namespace Go.Proofs.YtbgnnjfpiblkmaaGreatDoor
open Go
set_option linter.unusedSimpArgs false
set_option linter.unnecessarySimpa false
set_option linter.unusedSectionVars false
set_option linter.unusedVariables false
namespace Z
inductive DS
  | ok (e : DZ)
  | sp (p : Pr) (size : Int) (n : Nat)
def DS.bad : DS → Bool
  | .ok _ => false
  | .sp _ _ _ => true
def DS.fits : DS → DZ → Prop
  | .ok e, y => y = e
  | .sp p z n, y => y.p = p ∧ y.x.size = z ∧ y.x.all.length ≤ n
def DS.p : DS → Pr
  | .ok e => e.p
  | .sp p _ _ => p
def DS.len : DS → Nat
  | .ok e => e.x.all.length
  | .sp _ _ n => n
def DS.raw (b : List UInt8) : DS → DS
  | .ok e => .ok (e.raw b)
  | .sp p z n => .sp p z (n + b.length)
def DS.clear : DS → DS
  | .ok e => .ok e.clear
  | .sp p z _ => .ok (DZ.new p z)
structure TR where
  d : DS
  e : Int
  l : List Y
  out : List UInt8
def DS.take (d : DS) (b : List UInt8) (n : Int) : TR :=
  if 1 ≤ n ∧ n ≤ 2097152 then match d with
    | .sp p z m => ⟨.sp p z m, 2, [], []⟩
    | .ok e => match e.take b n with
      | none => ⟨.sp e.p e.x.size (e.x.all.length + n.toNat), 2, [], []⟩
      | some r => ⟨.ok r.1, 0, r.2.1, r.2.2⟩
  else ⟨d, 7, [], []⟩
theorem stepD_none1 {p : Pr} {n : Int} {s : LS} (h : (symRd p s.st s.x).run s.z = none) : stepD p n s = none := by
  unfold stepD; rw [h]
theorem stepD_none2 {p : Pr} {n : Int} {s : LS} {z : RS} {y : Y} (h : (symRd p s.st s.x).run s.z = some (z, y)) (hc : ¬ (may s.x s.st y = 0 ∧ size y ≤ n - s.out.length)) : stepD p n s = none := by
  unfold stepD; rw [h]; simp only [if_neg hc]
theorem stepD_go {p : Pr} {n : Int} {s : LS} {z : RS} {y : Y} (h : (symRd p s.st s.x).run s.z = some (z, y)) (h1 : may s.x s.st y = 0) (h2 : size y ≤ n - s.out.length) : stepD p n s = some (s.step z y) := by
  unfold stepD; rw [h]; simp only [if_pos (show may s.x s.st y = 0 ∧ size y ≤ n - s.out.length from ⟨h1, h2⟩)]
theorem loopD_go {p : Pr} {n : Int} {f : Nat} {s : LS} (h : (s.out.length : Int) < n) : loopD p n (f + 1) s = match stepD p n s with
    | none => none
    | some t => loopD p n f t := by
  rw [loopD, if_pos h]
  cases stepD p n s <;> rfl
theorem loopD_end {p : Pr} {n : Int} {f : Nat} {s : LS} (h : ¬ (s.out.length : Int) < n) : loopD p n f s = some s := by
  cases f with
  | zero => rw [loopD, if_neg h]
  | succ f => rw [loopD, if_neg h]
end Z

def LDec (b : Nat) (d : Z.DS) : HA := fun h => ∃ k : (Nat × Nat × (Nat → Nat)) × Z.DZ, (k.2.Ok ∧ d.fits k.2) ∧ Sats [cel b ⟨171, dcCells k.1.1 k.1.2.1 d.bad⟩, cel k.1.1 ⟨141, tbCells k.2.p k.2.st k.1.2.2⟩, Win k.1.2.1 k.2.x, tabs k.1.2.2 k.2.T] h
section
variable {E w : World} {M : List HA} {b t wd : Nat} {q : Nat → Nat} {d : Z.DS} {e : Z.DZ}
theorem LDec.opn (hS : Sat E w (LDec b d :: M)) : ∃ t wd q e, e.Ok ∧ d.fits e ∧ Sat E w (cel b ⟨171, dcCells t wd d.bad⟩ :: cel t ⟨141, tbCells e.p e.st q⟩ :: Win wd e.x :: tabs q e.T :: M) := by
  obtain ⟨k, hS⟩ := hS.ex
  obtain ⟨h1, ⟨hA, _⟩, _⟩ := hS.head
  exact ⟨k.1.1, k.1.2.1, k.1.2.2, k.2, hA.1, hA.2, hS.open_ (M := [_, _, _, _]) fun _ h => h.2⟩
theorem LDec.shut (hS : Sat E w (cel b ⟨171, dcCells t wd d.bad⟩ :: cel t ⟨141, tbCells e.p e.st q⟩ :: Win wd e.x :: tabs q e.T :: M)) (he : e.Ok) (hf : d.fits e) : Sat E w (LDec b d :: M) :=
  Sat.shut (M := [_, _, _, _]) hS fun _ h => ⟨((t, wd, q), e), ⟨he, hf⟩, h⟩
end
attribute [local irreducible] oMv oV oU oCall oCallV oBi oBin oUn oLoad oStore oNil oFld oField oIdx oIndex oPick oAlloc oBox oBuild oBs oConv oMk oSl oExt oFn oIface oMap oLook oMapUp oRange oNext oEntry oInv oAssert oPanic oRes pN pA pL pDr pIf gA pGd

section
variable {E w W : World} {M N : List HA} {Q : Value → World → Prop} {b : Nat} {d : Z.DS}

theorem DcNew_in {p : Z.Pr} (hS : Sat E w M) (hp : p.Ok) (n : Int) (h0 : 1 ≤ n) (h1 : n ≤ 4294967295) (hQ : ∀ b w, Sat E w (LDec b (.ok (Z.DZ.new p n)) :: M) → Q (.tuple #[pz b, .int .i64 0]) w) :
    Calls Tryz.prog 41 #[.agg #[.int .i64 p.lc, .int .i64 p.lp, .int .i64 p.pb], .int .i64 n] w (retP Q) := by
  refine lzdec_New.calls ?_
  unfold lzdec_New.F
  repeat' (first | (refine pc_state_PropsByte (PropsByte_in p hp hS ?_); clear hS; intro w hS) | (refine pc_window_New (WNew_in hS n h0 h1 ?_); clear hS; intro wd w hS) | (refine pc_model_New (MNew_ok hp hS ?_); clear hS; intro t q w hS) | (refine pN_neq_s ?_ ?_ <;> intro hc <;> try (exfalso; first | omega | exact hc rfl | exact hc (by assumption) | exact absurd hc (by assumption))) | refine pIf_f ?_ | refine pN_la hS (by rfl) ?_ | (refine pN_bx hS (by rfl) ?_; clear hS; intro a w hS) | refine pN_via (by (intro K; simp (disch := omega) only [go_sem, pN_min, pN_max, w_u32, w_u64, Option.isNone_some, Option.isNone_none]; (try simp only [wrap_u32, wrap_u64]); rfl)) ?_ | fail)
  have hS4 : Sat E w (cel a ⟨171, [pz t, pz wd, .bool false]⟩ :: cel t ⟨141, tbCells p Z.St.new q⟩ :: Win wd ⟨n, []⟩ :: tabs q (Z.T0 p) :: M) := hS.to
  exact hQ _ _ (LDec.shut (d := .ok (Z.DZ.new p n)) (e := Z.DZ.new p n) (t := t) (wd := wd) (q := q) hS4 (Z.DZ.Ok.new hp n) rfl)
theorem DcNew_no {p : Z.Pr} (hS : Sat E w M) (n : Int) (hpb : -9223372036854775808 ≤ p.lc ∧ p.lc < 9223372036854775808) (h : ¬ (p.Ok ∧ 1 ≤ n ∧ n ≤ 4294967295)) (hQ : ∀ w, Sat E w M → Q (.tuple #[.pointer none, .int .i64 (if p.Ok then 7 else 6)]) w) :
    Calls Tryz.prog 41 #[.agg #[.int .i64 p.lc, .int .i64 p.lp, .int .i64 p.pb], .int .i64 n] w (retP Q) := by
  refine lzdec_New.calls ?_
  unfold lzdec_New.F
  by_cases hp : p.Ok
  · rw [if_pos hp] at hQ
    repeat' (first | (refine pc_state_PropsByte (PropsByte_in p hp hS ?_); clear hS; intro w hS) | (refine pc_window_New (WNew_no n (fun hd => h ⟨hp, hd⟩) ?_)) | (refine pN_neq_s ?_ ?_ <;> intro hc <;> try (exfalso; first | omega | exact hc rfl | exact hc (by assumption) | exact absurd hc (by assumption))) | refine pIf_t ?_ | refine pIf_f ?_ | refine pN_la hS (by rfl) ?_ | (refine pN_bx hS (by rfl) ?_; clear hS; intro a w hS) | refine pN_via (by (intro K; simp (disch := omega) only [go_sem, pN_min, pN_max, w_u32, w_u64, Option.isNone_some, Option.isNone_none]; (try simp only [wrap_u32, wrap_u64]); rfl)) ?_ | fail)
    exact hQ _ hS.to
  · rw [if_neg hp] at hQ
    repeat' (first | (refine pc_state_PropsByte (PropsByte_no p hp hpb hS ?_); clear hS; intro w hS) | (refine pN_neq_s ?_ ?_ <;> intro hc <;> try (exfalso; first | omega | exact hc rfl | exact hc (by assumption) | exact absurd hc (by assumption))) | refine pIf_t ?_ | refine pN_la hS (by rfl) ?_ | (refine pN_bx hS (by rfl) ?_; clear hS; intro a w hS) | refine pN_via (by (intro K; simp (disch := omega) only [go_sem, pN_min, pN_max, w_u32, w_u64, Option.isNone_some, Option.isNone_none]; (try simp only [wrap_u32, wrap_u64]); rfl)) ?_ | fail)
    exact hQ _ hS.to

theorem DcRaw_ok {s0 : Sl} {l : List UInt8} (hS : Sat E w (LDec b d :: M)) [hl : Rds cd_uint8 M s0 l] (hn : d.len + l.length ≤ 4611686018427387904) (hQ : ∀ w, Sat E w (LDec b (d.raw l) :: M) → Q (.tuple #[]) w) :
    Calls Tryz.prog 51 #[pz b, .slice s0.a l.length s0.c] w (retP Q) := by
  refine lzdec_Decoder_Raw.calls ?_
  unfold lzdec_Decoder_Raw.F
  obtain ⟨t, wd, q, e, he, hf, hS⟩ := LDec.opn hS
  have hx : e.x.all.length ≤ d.len := by
    cases d with
    | ok e' => cases hf; exact Nat.le_refl _
    | sp p z n => exact hf.2.2
  repeat' (first | (refine pc_window_Window_Put (WPut_ok (hS.fd (Win wd)) (by omega) ?_); clear hS; intro w hS) | refine pN_l hS (by first | rfl | assumption) ?_ | refine pN_via (by (intro K; simp (disch := omega) only [go_sem, pN_min, pN_max, w_u32, w_u64, Option.isNone_some, Option.isNone_none]; (try simp only [wrap_u32, wrap_u64]); rfl)) ?_ | fail)
  have hS4 := hS.fd4 (cel b) (cel t) (Win wd) (tabs q)
  clear hS
  refine hQ _ (LDec.shut (d := d.raw l) (e := e.raw l) (t := t) (wd := wd) (q := q) ?_ (he.raw l) ?_)
  · cases d with
    | ok e' => exact hS4
    | sp p z n => exact hS4
  · cases d with
    | ok e' => cases hf; rfl
    | sp p z n => exact ⟨hf.1, hf.2.1, by simp only [Z.DZ.raw, Z.W.put, List.length_append]; have := hf.2.2; omega⟩

theorem DcClear_ok (hS : Sat E w (LDec b d :: M)) (hQ : ∀ w, Sat E w (LDec b d.clear :: M) → Q (.tuple #[]) w) :
    Calls Tryz.prog 53 #[pz b] w (retP Q) := by
  refine lzdec_Decoder_Clear.calls ?_
  unfold lzdec_Decoder_Clear.F
  obtain ⟨t, wd, q, e, he, hf, hS⟩ := LDec.opn hS
  repeat' (first | refine pN_la_at (n := 3) hS e.p.cells rfl rfl ?_ | (refine pc_model_New (MNew_ok he.p hS ?_); clear hS; intro t2 q2 w hS) | (refine pc_window_Window_Clear (WClear_ok (hS.fd (Win wd)) ?_); clear hS; intro w hS) | refine pN_l hS (by first | rfl | assumption) ?_ | (refine pN_s hS (by first | exact Nat.le_of_ble_eq_true rfl | assumption) (by rfl) ?_; clear hS; intro w hS; try simp only [List.set_cons_zero, List.set_cons_succ] at hS) | refine pN_via (by (intro K; simp (disch := omega) only [go_sem, pN_min, pN_max, w_u32, w_u64, Option.isNone_some, Option.isNone_none]; (try simp only [wrap_u32, wrap_u64]); rfl)) ?_ | fail)
  have hS4 : Sat E w (cel b ⟨171, [pz t2, pz wd, .bool false]⟩ :: cel t2 ⟨141, tbCells e.p Z.St.new q2⟩ :: Win wd ⟨e.x.size, []⟩ :: tabs q2 (Z.T0 e.p) :: M) := hS.to
  clear hS
  refine hQ _ (LDec.shut (d := d.clear) (e := e.clear) (t := t2) (wd := wd) (q := q2) ?_ he.clear ?_)
  · cases d with
    | ok e' => exact hS4
    | sp p z n => exact hS4
  · cases d with
    | ok e' => cases hf; rfl
    | sp p z n =>
      obtain ⟨rfl, rfl, _⟩ := hf
      rfl

theorem SySize_ok (hG : Glo W) (hS : Sat E w M) [h : Has (old W) M N] (y : Z.Y) (hQ : ∀ w, Sat E w M → Q (.int .i64 (Z.size y)) w) :
    Calls Tryz.prog 94 #[.agg #[.int .i64 y.Kind, bv y.Byte, .int .i64 y.Len, .int .i64 y.Dist]] w (retP Q) := by
  refine symbol_Size.calls ?_
  unfold symbol_Size.F
  unfold Z.size at hQ
  by_cases hy : Z.errY y = 0
  · rw [if_neg (by omega)] at hQ
    by_cases hk : y.Kind = 2 ∨ y.Kind = 3
    · rw [if_pos hk] at hQ
      by_cases h2 : y.Kind = 2
      · repeat' (first | refine pL_la hS (by rfl) ?_ | (refine pDr_go hS ?_; clear hS; intro w hS) | (refine pN_bx hS (by rfl) ?_; clear hS; intro a w hS) | fail)
        refine ⟨?_, ?_⟩
        · repeat' (first | (refine pc_state_New (SNew_ok hS ?_); clear hS; intro w hS) | refine ⟨⟨run_la_at (n := 4) hS [.int .i64 y.Kind, bv y.Byte, .int .i64 y.Len, .int .i64 y.Dist] rfl rfl, trivial⟩, ?_⟩ | fail)
          refine ⟨?_, ?_⟩
          all_goals
            repeat' (first | (refine pc_state_State_Next (Next_in (s := Z.St.new) hG hS Z.St.Right.new hy ?_); clear hS; intro w hS) | refine ⟨⟨run_la_at (n := 4) hS [.int .i64 y.Kind, bv y.Byte, .int .i64 y.Len, .int .i64 y.Dist] rfl rfl, trivial⟩, ?_⟩ | ((first | refine pN_eql_s ?_ ?_ | refine pN_neq_s ?_ ?_) <;> intro hc <;> try (exfalso; first | omega | exact hc rfl | exact hc (by assumption) | exact absurd hc (by assumption))) | refine pIf_t ?_ | refine pIf_f ?_ | refine pGd_no (by rfl) ?_ | refine pN_l hS (by first | rfl | assumption) ?_ | (refine pN_sa hS (by rfl) (by rfl) (by rfl) ?_; clear hS; intro w hS; try dsimp only at hS) | (refine pN_nz hS ?_; clear hS; intro a w hS) | refine ⟨trivial, ?_⟩ | refine pN_via (by (intro K; simp (disch := omega) only [go_sem, pN_min, pN_max, w_u32, w_u64, Option.isNone_some, Option.isNone_none]; (try simp only [wrap_u32, wrap_u64]); rfl)) ?_ | refine pA_via (by (intro K; simp (disch := omega) only [go_sem, pN_min, pN_max, w_u32, w_u64, Option.isNone_some, Option.isNone_none]; (try simp only [wrap_u32, wrap_u64]); rfl)) ?_ | fail)
            exact hQ _ hS.to
        · repeat' (first | (refine pc_state_New (SNew_ok hS ?_); clear hS; intro w hS) | (refine pc_state_State_Next (Next_in (s := Z.St.new) hG hS Z.St.Right.new hy ?_); clear hS; intro w hS) | refine ⟨⟨run_la_at (n := 4) hS [.int .i64 y.Kind, bv y.Byte, .int .i64 y.Len, .int .i64 y.Dist] rfl rfl, trivial⟩, ?_⟩ | ((first | refine pN_eql_s ?_ ?_ | refine pN_neq_s ?_ ?_) <;> intro hc <;> try (exfalso; first | omega | exact hc rfl | exact hc (by assumption) | exact absurd hc (by assumption))) | refine pIf_t ?_ | refine pIf_f ?_ | refine pGd_no (by rfl) ?_ | refine pN_l hS (by first | rfl | assumption) ?_ | (refine pN_sa hS (by rfl) (by rfl) (by rfl) ?_; clear hS; intro w hS; try dsimp only at hS) | (refine pN_nz hS ?_; clear hS; intro a w hS) | refine ⟨trivial, ?_⟩ | refine pN_via (by (intro K; simp (disch := omega) only [go_sem, pN_min, pN_max, w_u32, w_u64, Option.isNone_some, Option.isNone_none]; (try simp only [wrap_u32, wrap_u64]); rfl)) ?_ | refine pA_via (by (intro K; simp (disch := omega) only [go_sem, pN_min, pN_max, w_u32, w_u64, Option.isNone_some, Option.isNone_none]; (try simp only [wrap_u32, wrap_u64]); rfl)) ?_ | fail)
          exact hQ _ hS.to
      · repeat' (first | refine pL_la hS (by rfl) ?_ | (refine pDr_go hS ?_; clear hS; intro w hS) | (refine pN_bx hS (by rfl) ?_; clear hS; intro a w hS) | fail)
        refine ⟨?_, ?_⟩
        · repeat' (first | (refine pc_state_New (SNew_ok hS ?_); clear hS; intro w hS) | refine ⟨⟨run_la_at (n := 4) hS [.int .i64 y.Kind, bv y.Byte, .int .i64 y.Len, .int .i64 y.Dist] rfl rfl, trivial⟩, ?_⟩ | fail)
          refine ⟨?_, ?_⟩
          all_goals
            repeat' (first | (refine pc_state_State_Next (Next_in (s := Z.St.new) hG hS Z.St.Right.new hy ?_); clear hS; intro w hS) | refine ⟨⟨run_la_at (n := 4) hS [.int .i64 y.Kind, bv y.Byte, .int .i64 y.Len, .int .i64 y.Dist] rfl rfl, trivial⟩, ?_⟩ | ((first | refine pN_eql_s ?_ ?_ | refine pN_neq_s ?_ ?_) <;> intro hc <;> try (exfalso; first | omega | exact hc rfl | exact hc (by assumption) | exact absurd hc (by assumption))) | refine pIf_t ?_ | refine pIf_f ?_ | refine pGd_go (by rfl) ?_ | refine pN_l hS (by first | rfl | assumption) ?_ | (refine pN_sa hS (by rfl) (by rfl) (by rfl) ?_; clear hS; intro w hS; try dsimp only at hS) | (refine pN_nz hS ?_; clear hS; intro a w hS) | refine ⟨trivial, ?_⟩ | refine pN_via (by (intro K; simp (disch := omega) only [go_sem, pN_min, pN_max, w_u32, w_u64, Option.isNone_some, Option.isNone_none]; (try simp only [wrap_u32, wrap_u64]); rfl)) ?_ | refine pA_via (by (intro K; simp (disch := omega) only [go_sem, pN_min, pN_max, w_u32, w_u64, Option.isNone_some, Option.isNone_none]; (try simp only [wrap_u32, wrap_u64]); rfl)) ?_ | fail)
            exact hQ _ hS.to
        · repeat' (first | (refine pc_state_New (SNew_ok hS ?_); clear hS; intro w hS) | (refine pc_state_State_Next (Next_in (s := Z.St.new) hG hS Z.St.Right.new hy ?_); clear hS; intro w hS) | refine ⟨⟨run_la_at (n := 4) hS [.int .i64 y.Kind, bv y.Byte, .int .i64 y.Len, .int .i64 y.Dist] rfl rfl, trivial⟩, ?_⟩ | ((first | refine pN_eql_s ?_ ?_ | refine pN_neq_s ?_ ?_) <;> intro hc <;> try (exfalso; first | omega | exact hc rfl | exact hc (by assumption) | exact absurd hc (by assumption))) | refine pIf_t ?_ | refine pIf_f ?_ | refine pGd_go (by rfl) ?_ | refine pN_l hS (by first | rfl | assumption) ?_ | (refine pN_sa hS (by rfl) (by rfl) (by rfl) ?_; clear hS; intro w hS; try dsimp only at hS) | (refine pN_nz hS ?_; clear hS; intro a w hS) | refine ⟨trivial, ?_⟩ | refine pN_via (by (intro K; simp (disch := omega) only [go_sem, pN_min, pN_max, w_u32, w_u64, Option.isNone_some, Option.isNone_none]; (try simp only [wrap_u32, wrap_u64]); rfl)) ?_ | refine pA_via (by (intro K; simp (disch := omega) only [go_sem, pN_min, pN_max, w_u32, w_u64, Option.isNone_some, Option.isNone_none]; (try simp only [wrap_u32, wrap_u64]); rfl)) ?_ | fail)
          exact hQ _ hS.to
    · rw [if_neg hk] at hQ
      repeat' (first | refine pL_la hS (by rfl) ?_ | (refine pDr_go hS ?_; clear hS; intro w hS) | (refine pN_bx hS (by rfl) ?_; clear hS; intro a w hS) | fail)
      refine ⟨?_, ?_⟩
      · repeat' (first | (refine pc_state_New (SNew_ok hS ?_); clear hS; intro w hS) | refine ⟨⟨run_la_at (n := 4) hS [.int .i64 y.Kind, bv y.Byte, .int .i64 y.Len, .int .i64 y.Dist] rfl rfl, trivial⟩, ?_⟩ | fail)
        refine ⟨?_, ?_⟩
        all_goals
          repeat' (first | (refine pc_state_State_Next (Next_in (s := Z.St.new) hG hS Z.St.Right.new hy ?_); clear hS; intro w hS) | refine ⟨⟨run_la_at (n := 4) hS [.int .i64 y.Kind, bv y.Byte, .int .i64 y.Len, .int .i64 y.Dist] rfl rfl, trivial⟩, ?_⟩ | ((first | refine pN_eql_s ?_ ?_ | refine pN_neq_s ?_ ?_) <;> intro hc <;> try (exfalso; first | omega | exact hc rfl | exact hc (by assumption) | exact absurd hc (by assumption))) | refine pIf_f ?_ | refine pGd_go (by rfl) ?_ | refine pN_l hS (by first | rfl | assumption) ?_ | (refine pN_sa hS (by rfl) (by rfl) (by rfl) ?_; clear hS; intro w hS; try dsimp only at hS) | (refine pN_nz hS ?_; clear hS; intro a w hS) | refine ⟨trivial, ?_⟩ | refine pN_via (by (intro K; simp (disch := omega) only [go_sem, pN_min, pN_max, w_u32, w_u64, Option.isNone_some, Option.isNone_none]; (try simp only [wrap_u32, wrap_u64]); rfl)) ?_ | refine pA_via (by (intro K; simp (disch := omega) only [go_sem, pN_min, pN_max, w_u32, w_u64, Option.isNone_some, Option.isNone_none]; (try simp only [wrap_u32, wrap_u64]); rfl)) ?_ | fail)
          exact hQ _ hS.to
      · repeat' (first | (refine pc_state_New (SNew_ok hS ?_); clear hS; intro w hS) | (refine pc_state_State_Next (Next_in (s := Z.St.new) hG hS Z.St.Right.new hy ?_); clear hS; intro w hS) | refine ⟨⟨run_la_at (n := 4) hS [.int .i64 y.Kind, bv y.Byte, .int .i64 y.Len, .int .i64 y.Dist] rfl rfl, trivial⟩, ?_⟩ | ((first | refine pN_eql_s ?_ ?_ | refine pN_neq_s ?_ ?_) <;> intro hc <;> try (exfalso; first | omega | exact hc rfl | exact hc (by assumption) | exact absurd hc (by assumption))) | refine pIf_f ?_ | refine pGd_go (by rfl) ?_ | refine pN_l hS (by first | rfl | assumption) ?_ | (refine pN_sa hS (by rfl) (by rfl) (by rfl) ?_; clear hS; intro w hS; try dsimp only at hS) | (refine pN_nz hS ?_; clear hS; intro a w hS) | refine ⟨trivial, ?_⟩ | refine pN_via (by (intro K; simp (disch := omega) only [go_sem, pN_min, pN_max, w_u32, w_u64, Option.isNone_some, Option.isNone_none]; (try simp only [wrap_u32, wrap_u64]); rfl)) ?_ | refine pA_via (by (intro K; simp (disch := omega) only [go_sem, pN_min, pN_max, w_u32, w_u64, Option.isNone_some, Option.isNone_none]; (try simp only [wrap_u32, wrap_u64]); rfl)) ?_ | fail)
        exact hQ _ hS.to
  · rw [if_pos (by omega)] at hQ
    repeat' (first | refine pL_la hS (by rfl) ?_ | (refine pDr_go hS ?_; clear hS; intro w hS) | (refine pN_bx hS (by rfl) ?_; clear hS; intro a w hS) | fail)
    refine ⟨?_, ?_⟩
    · repeat' (first | (refine pc_state_New (SNew_ok hS ?_); clear hS; intro w hS) | refine ⟨⟨run_la_at (n := 4) hS [.int .i64 y.Kind, bv y.Byte, .int .i64 y.Len, .int .i64 y.Dist] rfl rfl, trivial⟩, ?_⟩ | fail)
      refine ⟨?_, ?_⟩
      all_goals
        repeat' (first | (refine pc_state_State_Next (Next_no (s := Z.St.new) hS Z.St.Right.new hy ?_); clear hS; intro w hS) | refine ⟨⟨run_la_at (n := 4) hS [.int .i64 y.Kind, bv y.Byte, .int .i64 y.Len, .int .i64 y.Dist] rfl rfl, trivial⟩, ?_⟩ | (refine pN_neq_s ?_ ?_ <;> intro hc <;> try (exfalso; first | omega | exact hc rfl | exact hc (by assumption) | exact absurd hc (by assumption))) | refine pIf_t ?_ | (refine pN_sa hS (by rfl) (by rfl) (by rfl) ?_; clear hS; intro w hS; try dsimp only at hS) | (refine pN_nz hS ?_; clear hS; intro a w hS) | refine ⟨trivial, ?_⟩ | refine pA_via (by (intro K; simp (disch := omega) only [go_sem, pN_min, pN_max, w_u32, w_u64, Option.isNone_some, Option.isNone_none]; (try simp only [wrap_u32, wrap_u64]); rfl)) ?_ | fail)
        exact hQ _ hS.to
    · repeat' (first | (refine pc_state_New (SNew_ok hS ?_); clear hS; intro w hS) | (refine pc_state_State_Next (Next_no (s := Z.St.new) hS Z.St.Right.new hy ?_); clear hS; intro w hS) | refine ⟨⟨run_la_at (n := 4) hS [.int .i64 y.Kind, bv y.Byte, .int .i64 y.Len, .int .i64 y.Dist] rfl rfl, trivial⟩, ?_⟩ | (refine pN_neq_s ?_ ?_ <;> intro hc <;> try (exfalso; first | omega | exact hc rfl | exact hc (by assumption) | exact absurd hc (by assumption))) | refine pIf_t ?_ | (refine pN_sa hS (by rfl) (by rfl) (by rfl) ?_; clear hS; intro w hS; try dsimp only at hS) | (refine pN_nz hS ?_; clear hS; intro a w hS) | refine ⟨trivial, ?_⟩ | refine pA_via (by (intro K; simp (disch := omega) only [go_sem, pN_min, pN_max, w_u32, w_u64, Option.isNone_some, Option.isNone_none]; (try simp only [wrap_u32, wrap_u64]); rfl)) ?_ | fail)
      exact hQ _ hS.to
end

end Go.Proofs.YtbgnnjfpiblkmaaGreatDoor

namespace Go.Proofs.YtbgnnjfpiblkmaaGreatDoor
open Go
set_option linter.unusedSimpArgs false
set_option linter.unnecessarySimpa false
set_option linter.unusedSectionVars false
set_option linter.unusedVariables false
namespace Z
theorem loop_fin {p : Pr} {n : Int} : ∀ (k : Nat) {s t : LS}, loopD p n k s = some t → t.x.size = s.x.size ∧ t.x.all.length + s.out.length = s.x.all.length + t.out.length ∧ ((s.out.length : Int) ≤ n → (t.out.length : Int) ≤ n)
  | 0, s, t, h => by
    rw [loopD] at h
    split at h
    · cases h
    · cases h; exact ⟨rfl, rfl, fun h => h⟩
  | k + 1, s, t, h => by
    rw [loopD] at h
    split at h
    · split at h
      · cases h
      · rename_i u hu
        have hl := LS.step_len hu
        obtain ⟨h1, h2, h3⟩ := loop_fin k h
        exact ⟨h1.trans hl.2.2.2.2.1, by omega, fun _ => h3 hl.2.1⟩
    · cases h; exact ⟨rfl, rfl, fun h => h⟩
end Z
attribute [local irreducible] oMv oV oU oCall oCallV oBi oBin oUn oLoad oStore oNil oFld oField oIdx oIndex oPick oAlloc oBox oBuild oBs oConv oMk oSl oExt oFn oIface oMap oLook oMapUp oRange oNext oEntry oInv oAssert oPanic oRes pN pA pL pDr pIf gA pGd

section
variable {E w W : World} {M N : List HA} {Q : Value → World → Prop} {b : Nat}

theorem newReader_ok {s0 : Sl} {l : List UInt8} (hS : Sat E w M) [hr : Rds cd_uint8 M s0 l] (hb : l.length ≤ 225000000000000) (dec : Nat)
    (hok : ∀ d r dd w, D.start l = .ok d () → Sat E w (cel r ⟨233, rdCells dec dd false⟩ :: Dec dd d :: M) → Q (pz r) w)
    (hno : ∀ e w, D.start l = .no e → Sat E w M → Q (.pointer none) w) :
    Calls Tryz.prog 133 #[pz dec, .slice s0.a l.length s0.c] w (retP Q) := by
  refine lzdec_newReader.calls ?_
  unfold lzdec_newReader.F
  cases hst : D.start l with
  | no e =>
    have hne : e ≠ 0 := by
      unfold D.start at hst
      split at hst
      · cases hst; decide
      · split at hst
        · cases hst; decide
        · cases hst
    repeat' (first | (refine pc_rcdec_New (DNew_no hS hb hst ?_); clear hS; intro w hS) | (refine pN_neq_s ?_ ?_ <;> intro hc <;> try (exfalso; first | omega | exact hc rfl | exact hc (by assumption) | exact absurd hc (by assumption))) | refine pIf_t ?_ | refine pN_via (by (intro K; simp (disch := omega) only [go_sem, pN_min, pN_max, w_u32, w_u64, Option.isNone_some, Option.isNone_none]; (try simp only [wrap_u32, wrap_u64]); rfl)) ?_ | fail)
    exact hno e _ hst hS.to
  | ok d u =>
    repeat' (first | (refine pc_rcdec_New (DNew_in hS hb hst ?_); clear hS; intro dd w hS) | (refine pN_neq_s ?_ ?_ <;> intro hc <;> try (exfalso; first | omega | exact hc rfl | exact hc (by assumption) | exact absurd hc (by assumption))) | refine pIf_f ?_ | (refine pN_bx hS (by rfl) ?_; clear hS; intro a w hS) | refine pN_via (by (intro K; simp (disch := omega) only [go_sem, pN_min, pN_max, w_u32, w_u64, Option.isNone_some, Option.isNone_none]; (try simp only [wrap_u32, wrap_u64]); rfl)) ?_ | fail)
    exact hok d _ dd _ hst hS.to

set_option maxHeartbeats 4000000 in
theorem all_ok {s0 : Sl} {l : List UInt8} {e : Z.DZ} {t wd : Nat} {q : Nat → Nat} {n : Int} (hG : Glo W) (he : e.Ok)
    (hS : Sat E w (cel b ⟨171, dcCells t wd false⟩ :: cel t ⟨141, tbCells e.p e.st q⟩ :: Win wd e.x :: tabs q e.T :: M)) [h : Has (old W) M N] [hr : Rds cd_uint8 M s0 l] (hb : l.length ≤ 225000000000000)
    (n0 : 1 ≤ n) (n1 : n ≤ 2097152) (hx : e.x.all.length + n.toNat + 273 ≤ 4611686018427387904)
    (hok : ∀ d gs sl so w, D.start l = .ok d () → Z.loopD e.p n n.toNat (e.ls d) = some gs → gs.Ok e.p → Sat E w (rows cd_api_Symbol sl gs.l :: rows cd_uint8 so gs.out :: cel b ⟨171, dcCells t wd false⟩ :: cel t ⟨141, tbCells e.p gs.st q⟩ :: Win wd gs.x :: tabs q gs.z.T :: M) →
      Q (.tuple #[.slice sl.a gs.l.length sl.c, .slice so.a gs.out.length so.c, .bool (decide (gs.z.d.k = gs.z.d.b.length ∧ gs.z.d.C = 0))]) w)
    (hno : ∀ (f : Z.DZ) w, e.take l n = none → f.Ok → f.p = e.p → f.x.size = e.x.size → f.x.all.length ≤ e.x.all.length + n.toNat → Sat E w (cel b ⟨171, dcCells t wd false⟩ :: cel t ⟨141, tbCells f.p f.st q⟩ :: Win wd f.x :: tabs q f.T :: M) →
      Q (.tuple #[.slice none 0 0, .slice none 0 0, .bool false]) w) :
    Calls Tryz.prog 91 #[pz b, .slice s0.a l.length s0.c, .int .i64 n] w (retP Q) := by
  refine lzdec_Decoder_all.calls ?_
  unfold lzdec_Decoder_all.F
  refine pc_lzdec_newReader (newReader_ok hS hb b (fun d r dd w hst hS => ?_) fun e' w hst hS => ?_)
  rotate_left 1
  · repeat' (first | refine pIf_t ?_ | refine pN_via (by (intro K; simp (disch := omega) only [go_sem, pN_min, pN_max, w_u32, w_u64, Option.isNone_some, Option.isNone_none]; (try simp only [wrap_u32, wrap_u64]); rfl)) ?_ | fail)
    exact hno e _ (by unfold Z.DZ.take; rw [hst]) he rfl rfl (Nat.le_add_right _ _) hS
  have hso := D.start_ok hst
  have hS : Sat E w (Dec dd d :: tabs q e.T :: cel r ⟨233, rdCells b dd false⟩ :: cel b ⟨171, dcCells t wd false⟩ :: cel t ⟨141, tbCells e.p e.st q⟩ :: Win wd e.x :: M) := hS.to
  have hS := Rsd.shut (p := e.p) (B := l) (y := ⟨d, e.T⟩) (z := some ⟨d, e.T⟩) hS ⟨hso.1, he.T⟩ hso.2.1 (fun _ h => by cases h; rfl)
  have hS : Sat E w (rows cd_api_Symbol ⟨none, 0⟩ [] :: _) := hS.nil 48 4
  have hS : Sat E w (rows cd_uint8 ⟨none, 0⟩ [] :: _) := hS.nil 5 1
  have hr1 : Rds cd_uint8 M s0 l := hr
  repeat' (first | refine pIf_f ?_ | refine pN_via (by (intro K; simp (disch := omega) only [go_sem, pN_min, pN_max, w_u32, w_u64, Option.isNone_some, Option.isNone_none]; (try simp only [wrap_u32, wrap_u64]); rfl)) ?_ | fail)
  have hS0 : Sat E _ (cel r ⟨233, rdCells b dd false⟩ :: Rsd e.p l dd q (some ⟨d, e.T⟩) :: cel b ⟨171, dcCells t wd false⟩ :: cel t ⟨141, tbCells e.p e.st q⟩ :: Win wd e.x :: rows cd_api_Symbol ⟨none, 0⟩ [] :: rows cd_uint8 ⟨none, 0⟩ [] :: M) := hS.to
  refine ⟨fun v1 v2 w => ∃ (f : Nat) (gs : Z.LS) (sl so : Sl), v1 = .slice sl.a gs.l.length sl.c ∧ v2 = .slice so.a gs.out.length so.c ∧ gs.Ok e.p ∧ gs.z.d.b = l ∧ gs.x.size = e.x.size ∧ gs.x.all.length = e.x.all.length + gs.out.length ∧ (gs.out.length : Int) ≤ n ∧ gs.l.length ≤ gs.out.length ∧ n - gs.out.length ≤ f ∧ Z.loopD e.p n f gs = Z.loopD e.p n n.toNat (e.ls d) ∧
    Sat E w (cel r ⟨233, rdCells b dd false⟩ :: Rsd e.p l dd q (some gs.z) :: cel b ⟨171, dcCells t wd false⟩ :: cel t ⟨141, tbCells e.p gs.st q⟩ :: Win wd gs.x :: rows cd_api_Symbol sl gs.l :: rows cd_uint8 so gs.out :: M),
    fun _ v _ => match v with | .slice _ k _ => n.toNat - k | _ => 0, ⟨n.toNat, e.ls d, ⟨none, 0⟩, ⟨none, 0⟩, rfl, rfl, ⟨he.st, ⟨hso.1, he.T⟩⟩, hso.2.1, rfl, rfl, by show ((0 : Nat) : Int) ≤ n; omega, Nat.le_refl _, by show n - ((0 : Nat) : Int) ≤ _; omega, rfl, hS0⟩, ?_⟩
  clear hS hS0
  rintro _ _ _ w ⟨f, gs, sl, so, rfl, rfl, hs, hsb, hsz, hsx, hsn, hsl, hf, hlp, hS⟩
  have hx2 : gs.x.all.length + 273 ≤ 4611686018427387904 := by omega
  by_cases hlt : (gs.out.length : Int) < n
  · obtain ⟨f, rfl⟩ : ∃ k, f = k + 1 := ⟨f - 1, by omega⟩
    rw [Z.loopD_go hlt] at hlp
    repeat' (first | (refine pN_lss_s ?_ ?_ <;> intro hc <;> try (exfalso; omega)) | refine pIf_t ?_ | refine pN_via (by (intro K; simp (disch := omega) only [go_sem, pN_min, pN_max, w_u32, w_u64, Option.isNone_some, Option.isNone_none]; (try simp only [wrap_u32, wrap_u64]); rfl)) ?_ | fail)
    refine pc_lzdec_reader_symbol (rsymbol_ok (z := some gs.z) he.p hs.st hb (by omega) (hS.fd5 (cel r) (Rsd e.p l dd q) (cel b) (cel t) (Win wd)) fun y v w hgot hS => ?_)
    have fin : ∀ (w : World), e.take l n = none → (∃ z : Option Z.RS, Sat E w (Rsd e.p l dd q z :: cel b ⟨171, dcCells t wd false⟩ :: cel t ⟨141, tbCells e.p gs.st q⟩ :: Win wd gs.x :: M)) → Q (.tuple #[.slice none 0 0, .slice none 0 0, .bool false]) w := by
      rintro w ht ⟨z, hS⟩
      obtain ⟨y, hy, _, _, hS⟩ := Rsd.opn hS
      exact hno ⟨e.p, gs.st, y.T, gs.x⟩ w ht ⟨he.p, hs.st, hy.T⟩ rfl hsz (by simp only; omega) hS.to
    have tkn : Z.loopD e.p n n.toNat (e.ls d) = none → e.take l n = none := fun h => by unfold Z.DZ.take; rw [hst]; simp only [h]
    cases y with
    | none =>
      rw [Z.stepD_none1 hgot] at hlp
      simp only [Option.isNone_none] at hS
      repeat' (first | refine pIf_t ?_ | refine pGd_no (by rfl) ?_ | refine pN_l hS (by first | rfl | assumption) ?_ | (refine pN_sa hS (by rfl) (by rfl) (by rfl) ?_; clear hS; intro w hS; try dsimp only at hS) | (refine pN_nz hS ?_; clear hS; intro a w hS) | refine pN_via (by (intro K; simp (disch := omega) only [go_sem, pN_min, pN_max, w_u32, w_u64, Option.isNone_some, Option.isNone_none]; (try simp only [wrap_u32, wrap_u64]); rfl)) ?_ | fail)
      exact fin _ (tkn hlp.symm) ⟨none, hS.to⟩
    | some z1 =>
      have hgot : (Z.symRd e.p gs.st gs.x).run gs.z = some (z1, v) := hgot
      have hz1 := Z.Rd.run_ok (Z.symRd_ok he.p hs.st gs.x) hs.z hgot
      simp only [Option.isNone_some] at hS
      by_cases c1 : Z.size v < 1
      · have hey : Z.errY v ≠ 0 := fun h => by have := Z.size_bd h; omega
        rw [Z.stepD_none2 hgot (fun h => hey (Z.may_err h.1))] at hlp
        repeat' (first | (refine pc_symbol_Size (SySize_ok hG hS v ?_); clear hS; intro w hS) | (refine pN_lss_s ?_ ?_ <;> intro hc <;> try (exfalso; omega)) | refine pIf_t ?_ | refine pGd_go (by rfl) ?_ | refine pGd_no (by rfl) ?_ | refine pN_l hS (by first | rfl | assumption) ?_ | refine pN_la hS (by rfl) ?_ | (refine pN_sa hS (by rfl) (by rfl) (by rfl) ?_; clear hS; intro w hS; try dsimp only at hS) | (refine pN_nz hS ?_; clear hS; intro a w hS) | refine pN_via (by (intro K; simp (disch := omega) only [go_sem, pN_min, pN_max, w_u32, w_u64, Option.isNone_some, Option.isNone_none]; (try simp only [wrap_u32, wrap_u64]); rfl)) ?_ | fail)
        exact fin _ (tkn hlp.symm) ⟨some z1, hS.to⟩
      by_cases c2 : n - gs.out.length < Z.size v
      · rw [Z.stepD_none2 hgot (fun h => by omega)] at hlp
        repeat' (first | (refine pc_symbol_Size (SySize_ok hG hS v ?_); clear hS; intro w hS) | ((first | refine pN_lss_s ?_ ?_ | refine pN_gtr_s ?_ ?_) <;> intro hc <;> try (exfalso; omega)) | refine pIf_t ?_ | refine pGd_go (by rfl) ?_ | refine pN_l hS (by first | rfl | assumption) ?_ | refine pN_la hS (by rfl) ?_ | (refine pN_sa hS (by rfl) (by rfl) (by rfl) ?_; clear hS; intro w hS; try dsimp only at hS) | (refine pN_nz hS ?_; clear hS; intro a w hS) | refine pN_via (by (intro K; simp (disch := omega) only [go_sem, pN_min, pN_max, w_u32, w_u64, Option.isNone_some, Option.isNone_none]; (try simp only [wrap_u32, wrap_u64]); rfl)) ?_ | fail)
        exact fin _ (tkn hlp.symm) ⟨some z1, hS.to⟩
      by_cases c3 : Z.may gs.x gs.st v = 0
      rotate_left 1
      · rw [Z.stepD_none2 hgot (fun h => c3 h.1)] at hlp
        repeat' (first | (refine pc_symbol_Size (SySize_ok hG hS v ?_); clear hS; intro w hS) | refine pL_la_at (n := 5) hS gs.st.cells rfl rfl ?_ | ((first | refine pN_lss_s ?_ ?_ | refine pN_gtr_s ?_ ?_) <;> intro hc <;> try (exfalso; omega)) | refine pIf_f ?_ | refine pGd_go (by rfl) ?_ | refine pN_l hS (by first | rfl | assumption) ?_ | refine pL_l hS (by first | rfl | assumption) ?_ | refine pN_la hS (by rfl) ?_ | refine pL_la hS (by rfl) ?_ | (refine pN_sa hS (by rfl) (by rfl) (by rfl) ?_; clear hS; intro w hS; try dsimp only at hS) | (refine pDr_go hS ?_; clear hS; intro w hS) | (refine pN_nz hS ?_; clear hS; intro a w hS) | refine pN_via (by (intro K; simp (disch := omega) only [go_sem, pN_min, pN_max, w_u32, w_u64, Option.isNone_some, Option.isNone_none]; (try simp only [wrap_u32, wrap_u64]); rfl)) ?_ | refine pA_via (by (intro K; simp (disch := omega) only [go_sem, pN_min, pN_max, w_u32, w_u64, Option.isNone_some, Option.isNone_none]; (try simp only [wrap_u32, wrap_u64]); rfl)) ?_ | fail)
        refine ⟨?_, ?_⟩
        all_goals
          repeat' (first | refine ⟨⟨run_la_at hS _ (by rfl) (by rfl), run_la_at (n := 5) hS gs.st.cells rfl rfl, run_l hS (by rfl), run_l hS (by rfl), trivial⟩, ?_⟩ | (refine pc_symbol_Apply (Apply_no (y := v) hG (hS.fd (Win wd)) hs.st c3 ?_); clear hS; intro w hS) | (refine pN_neq_s ?_ ?_ <;> intro hc <;> try (exfalso; first | omega | exact hc rfl | exact hc (by assumption) | exact absurd hc (by assumption))) | refine pIf_t ?_ | (refine pN_sa hS (by rfl) (by rfl) (by rfl) ?_; clear hS; intro w hS; try dsimp only at hS) | (refine pN_nz hS ?_; clear hS; intro a w hS) | refine ⟨trivial, ?_⟩ | refine pA_via (by (intro K; simp (disch := omega) only [go_sem, pN_min, pN_max, w_u32, w_u64, Option.isNone_some, Option.isNone_none]; (try simp only [wrap_u32, wrap_u64]); rfl)) ?_ | fail)
          exact fin _ (tkn hlp.symm) ⟨some z1, hS.to⟩
      rw [Z.stepD_go hgot c3 (by omega)] at hlp
      have hey := Z.may_err c3
      have hsb2 := Z.size_bd hey
      have hml := Z.made_len (x := gs.x) (s := gs.st) hey
      have hss := hs.st.next hey
      have fwd : ∀ (sl so : Sl) (w : World), Sat E w (cel r ⟨233, rdCells b dd false⟩ :: Rsd e.p l dd q (some z1) :: cel b ⟨171, dcCells t wd false⟩ :: cel t ⟨141, tbCells e.p (gs.st.next v) q⟩ :: Win wd (gs.x.put (Z.made gs.x gs.st v)) :: rows cd_api_Symbol sl (gs.l ++ [v]) :: rows cd_uint8 so (gs.out ++ Z.made gs.x gs.st v) :: M) →
          (∃ (f : Nat) (s' : Z.LS) (sl' so' : Sl), Value.slice sl.a (gs.l ++ [v]).length sl.c = .slice sl'.a s'.l.length sl'.c ∧ Value.slice so.a (gs.out ++ Z.made gs.x gs.st v).length so.c = .slice so'.a s'.out.length so'.c ∧ s'.Ok e.p ∧ s'.z.d.b = l ∧ s'.x.size = e.x.size ∧ s'.x.all.length = e.x.all.length + s'.out.length ∧ (s'.out.length : Int) ≤ n ∧ s'.l.length ≤ s'.out.length ∧ n - s'.out.length ≤ f ∧ Z.loopD e.p n f s' = Z.loopD e.p n n.toNat (e.ls d) ∧
            Sat E w (cel r ⟨233, rdCells b dd false⟩ :: Rsd e.p l dd q (some s'.z) :: cel b ⟨171, dcCells t wd false⟩ :: cel t ⟨141, tbCells e.p s'.st q⟩ :: Win wd s'.x :: rows cd_api_Symbol sl' s'.l :: rows cd_uint8 so' s'.out :: M)) := fun sl so w hS =>
        ⟨f, gs.step z1 v, sl, so, rfl, rfl, ⟨hss, hz1.1⟩, hz1.2.trans hsb, hsz, by simp only [Z.LS.step, Z.W.put, List.length_append]; omega, by simp only [Z.LS.step, List.length_append]; omega, by simp only [Z.LS.step, List.length_append, List.length_cons, List.length_nil]; omega, by simp only [Z.LS.step, List.length_append]; omega, hlp, hS⟩
      clear fin tkn hlp
      repeat' (first | (refine pc_symbol_Size (SySize_ok hG hS v ?_); clear hS; intro w hS) | refine pL_la_at (n := 5) hS gs.st.cells rfl rfl ?_ | ((first | refine pN_lss_s ?_ ?_ | refine pN_gtr_s ?_ ?_) <;> intro hc <;> try (exfalso; omega)) | refine pIf_f ?_ | refine pGd_go (by rfl) ?_ | refine pN_l hS (by first | rfl | assumption) ?_ | refine pL_l hS (by first | rfl | assumption) ?_ | refine pN_la hS (by rfl) ?_ | refine pL_la hS (by rfl) ?_ | (refine pN_sa hS (by rfl) (by rfl) (by rfl) ?_; clear hS; intro w hS; try dsimp only at hS) | (refine pDr_go hS ?_; clear hS; intro w hS) | (refine pN_nz hS ?_; clear hS; intro a w hS) | refine pN_via (by (intro K; simp (disch := omega) only [go_sem, pN_min, pN_max, w_u32, w_u64, Option.isNone_some, Option.isNone_none]; (try simp only [wrap_u32, wrap_u64]); rfl)) ?_ | refine pA_via (by (intro K; simp (disch := omega) only [go_sem, pN_min, pN_max, w_u32, w_u64, Option.isNone_some, Option.isNone_none]; (try simp only [wrap_u32, wrap_u64]); rfl)) ?_ | fail)
      refine ⟨?_, ?_⟩
      all_goals
        repeat' (first | refine ⟨⟨run_la_at hS _ (by rfl) (by rfl), run_la_at (n := 5) hS gs.st.cells rfl rfl, run_l hS (by rfl), run_l hS (by rfl), trivial⟩, ?_⟩ | (refine pc_symbol_Apply (Apply_in (y := v) hG (hS.fd (Win wd)) hs.st c3 hx2 ?_); clear hS; intro s' w hS) | refine pL_la_at (n := 5) hS (gs.st.next v).cells rfl rfl ?_ | (refine pN_sa_at (us := (gs.st.next v).cells) hS rfl (Nat.le_of_ble_eq_true rfl) rfl ?_; clear hS; intro w hS) | (refine pN_neq_s ?_ ?_ <;> intro hc <;> try (exfalso; first | omega | exact hc rfl | exact hc (by assumption) | exact absurd hc (by assumption))) | refine pIf_f ?_ | refine pL_l hS (by first | rfl | assumption) ?_ | refine pN_la hS (by rfl) ?_ | (refine pDr_go hS ?_; clear hS; intro w hS) | (refine pN_nz hS ?_; clear hS; intro a w hS) | refine ⟨trivial, ?_⟩ | (refine pN_b1 hS (by rfl) (by decide) ?_; clear hS; intro s w hS) | (refine pN_app hS (by first | rfl | omega | simpa only [go_sem] using True.intro | (simp only [go_sem]; omega)) (by first | rfl | omega | simpa only [go_sem] using True.intro | (simp only [go_sem]; omega)) (by first | omega | (simp only [go_sem]; omega)) ?_; clear hS; intro s w hS) | refine pA_via (by (intro K; simp (disch := omega) only [go_sem, pN_min, pN_max, w_u32, w_u64, Option.isNone_some, Option.isNone_none]; (try simp only [wrap_u32, wrap_u64]); rfl)) ?_ | fail)
        have hS := cel_conv (o' := ⟨141, tbCells e.p (gs.st.next v) q⟩) rfl (hS.fd (cel t))
        skip
        exact ⟨fwd _ _ _ hS.to, by simp only [List.length_append]; omega⟩
  · have hend := Z.loopD_end (p := e.p) (f := f) hlt
    obtain ⟨y, hy, hyb, hys, hS⟩ := Rsd.opn (hS.fd (Rsd e.p l dd q))
    obtain rfl := hys _ rfl
    repeat' (first | (refine pc_rcdec_Decoder_Done (Done_ok (hS.fd (Dec dd)) ?_); clear hS; intro w hS) | (refine pN_lss_s ?_ ?_ <;> intro hc <;> try (exfalso; omega)) | refine pIf_f ?_ | refine pN_l hS (by first | rfl | assumption) ?_ | refine pN_via (by (intro K; simp (disch := omega) only [go_sem, pN_min, pN_max, w_u32, w_u64, Option.isNone_some, Option.isNone_none]; (try simp only [wrap_u32, wrap_u64]); rfl)) ?_ | fail)
    exact hok d gs sl so _ hst (hlp.symm.trans hend) hs hS.to

theorem nil_rows {L : List HA} (hS : Sat E w L) : Sat E w (rows cd_api_Symbol ⟨none, 0⟩ [] :: rows cd_uint8 ⟨none, 0⟩ [] :: L) := by
  have hS : Sat E w (rows cd_uint8 ⟨none, 0⟩ [] :: _) := hS.nil 5 1
  exact hS.nil 48 4

set_option maxHeartbeats 1000000 in
theorem DcTake_ok {s0 : Sl} {l : List UInt8} {d : Z.DS} (hG : Glo W) (hS : Sat E w (LDec b d :: M)) [h : Has (old W) M N] [hr : Rds cd_uint8 M s0 l] (hb : l.length ≤ 225000000000000) (n : Int) (hx : d.len + 2097152 + 273 ≤ 4611686018427387904)
    (hQ : ∀ sl so w, Sat E w (rows cd_api_Symbol sl (d.take l n).l :: rows cd_uint8 so (d.take l n).out :: LDec b (d.take l n).d :: M) → Q (.tuple #[.slice sl.a (d.take l n).l.length sl.c, .slice so.a (d.take l n).out.length so.c, .int .i64 (d.take l n).e]) w) :
    Calls Tryz.prog 39 #[pz b, .slice s0.a l.length s0.c, .int .i64 n] w (retP Q) := by
  refine lzdec_Decoder_Take.calls ?_
  unfold lzdec_Decoder_Take.F
  by_cases hn : 1 ≤ n ∧ n ≤ 2097152
  rotate_left 1
  · have e : d.take l n = ⟨d, 7, [], []⟩ := by unfold Z.DS.take; rw [if_neg hn]
    rw [e] at hQ
    by_cases h1 : n < 1
    · repeat' (first | (refine pN_lss_s ?_ ?_ <;> intro hc <;> try (exfalso; omega)) | refine pIf_t ?_ | refine pGd_no (by rfl) ?_ | refine pN_via (by (intro K; simp (disch := omega) only [go_sem, pN_min, pN_max, w_u32, w_u64, Option.isNone_some, Option.isNone_none]; (try simp only [wrap_u32, wrap_u64]); rfl)) ?_ | fail)
      exact hQ ⟨none, 0⟩ ⟨none, 0⟩ _ (nil_rows hS)
    · repeat' (first | ((first | refine pN_lss_s ?_ ?_ | refine pN_gtr_s ?_ ?_) <;> intro hc <;> try (exfalso; omega)) | refine pIf_t ?_ | refine pGd_go (by rfl) ?_ | refine pN_via (by (intro K; simp (disch := omega) only [go_sem, pN_min, pN_max, w_u32, w_u64, Option.isNone_some, Option.isNone_none]; (try simp only [wrap_u32, wrap_u64]); rfl)) ?_ | fail)
      exact hQ ⟨none, 0⟩ ⟨none, 0⟩ _ (nil_rows hS)
  obtain ⟨n0, n1⟩ := hn
  obtain ⟨t, wd, q, e, he, hf, hS⟩ := LDec.opn hS
  cases d with
  | sp p z m =>
    have e2 : (Z.DS.sp p z m).take l n = ⟨.sp p z m, 2, [], []⟩ := by unfold Z.DS.take; rw [if_pos ⟨n0, n1⟩]
    rw [e2] at hQ
    have hS : Sat E w (cel b ⟨171, dcCells t wd true⟩ :: cel t ⟨141, tbCells e.p e.st q⟩ :: Win wd e.x :: tabs q e.T :: M) := hS
    repeat' (first | ((first | refine pN_lss_s ?_ ?_ | refine pN_gtr_s ?_ ?_) <;> intro hc <;> try (exfalso; omega)) | refine pIf_t ?_ | refine pIf_f ?_ | refine pGd_go (by rfl) ?_ | refine pN_l hS (by first | rfl | assumption) ?_ | refine pN_via (by (intro K; simp (disch := omega) only [go_sem, pN_min, pN_max, w_u32, w_u64, Option.isNone_some, Option.isNone_none]; (try simp only [wrap_u32, wrap_u64]); rfl)) ?_ | fail)
    exact hQ ⟨none, 0⟩ ⟨none, 0⟩ _ (nil_rows (LDec.shut (d := .sp p z m) hS he hf))
  | ok e' =>
    cases hf
    have hS : Sat E w (cel b ⟨171, dcCells t wd false⟩ :: cel t ⟨141, tbCells e.p e.st q⟩ :: Win wd e.x :: tabs q e.T :: M) := hS
    have hx : e.x.all.length + 2097152 + 273 ≤ 4611686018427387904 := hx
    repeat' (first | ((first | refine pN_lss_s ?_ ?_ | refine pN_gtr_s ?_ ?_) <;> intro hc <;> try (exfalso; omega)) | refine pIf_f ?_ | refine pGd_go (by rfl) ?_ | refine pN_l hS (by first | rfl | assumption) ?_ | refine pN_via (by (intro K; simp (disch := omega) only [go_sem, pN_min, pN_max, w_u32, w_u64, Option.isNone_some, Option.isNone_none]; (try simp only [wrap_u32, wrap_u64]); rfl)) ?_ | fail)
    refine pc_lzdec_Decoder_all (all_ok hG he hS hb n0 n1 (by omega) (fun dd gs sl so w hst hlp hgs hS => ?_) fun f w htk hf1 hf2 hf3 hf4 hS => ?_)
    · by_cases hc : gs.z.d.k = gs.z.d.b.length ∧ gs.z.d.C = 0
      · have htk : e.take l n = some (⟨e.p, gs.st, gs.z.T, gs.x⟩, gs.l, gs.out) := by
          unfold Z.DZ.take
          rw [hst]
          simp only [hlp]
          rw [if_pos hc]
        have e2 : (Z.DS.ok e).take l n = ⟨.ok ⟨e.p, gs.st, gs.z.T, gs.x⟩, 0, gs.l, gs.out⟩ := by
          unfold Z.DS.take
          rw [if_pos ⟨n0, n1⟩]
          simp only [htk]
        rw [e2] at hQ
        rw [decide_eq_true hc]
        repeat' (first | refine pIf_f ?_ | refine pN_via (by (intro K; simp (disch := omega) only [go_sem, pN_min, pN_max, w_u32, w_u64, Option.isNone_some, Option.isNone_none]; (try simp only [wrap_u32, wrap_u64]); rfl)) ?_ | fail)
        refine hQ sl so _ ?_
        have hS := LDec.shut (b := b) (d := .ok ⟨e.p, gs.st, gs.z.T, gs.x⟩) (e := ⟨e.p, gs.st, gs.z.T, gs.x⟩) (t := t) (wd := wd) (q := q) (M := rows cd_api_Symbol sl gs.l :: rows cd_uint8 so gs.out :: M) (by exact hS.fd4 (cel b) (cel t) (Win wd) (tabs q)) ⟨he.p, hgs.st, hgs.z.T⟩ rfl
        exact hS.to
      · have htk : e.take l n = none := by
          unfold Z.DZ.take
          rw [hst]
          simp only [hlp]
          rw [if_neg hc]
        have e2 : (Z.DS.ok e).take l n = ⟨.sp e.p e.x.size (e.x.all.length + n.toNat), 2, [], []⟩ := by
          unfold Z.DS.take
          rw [if_pos ⟨n0, n1⟩]
          simp only [htk]
        rw [e2] at hQ
        rw [decide_eq_false hc]
        have hfin := Z.loop_fin (s := e.ls dd) n.toNat hlp
        repeat' (first | refine pIf_t ?_ | (refine pN_s hS (by first | exact Nat.le_of_ble_eq_true rfl | assumption) (by rfl) ?_; clear hS; intro w hS; try simp only [List.set_cons_zero, List.set_cons_succ] at hS) | refine pN_via (by (intro K; simp (disch := omega) only [go_sem, pN_min, pN_max, w_u32, w_u64, Option.isNone_some, Option.isNone_none]; (try simp only [wrap_u32, wrap_u64]); rfl)) ?_ | fail)
        refine hQ ⟨none, 0⟩ ⟨none, 0⟩ _ (nil_rows ?_)
        refine LDec.shut (b := b) (d := .sp e.p e.x.size (e.x.all.length + n.toNat)) (e := ⟨e.p, gs.st, gs.z.T, gs.x⟩) (t := t) (wd := wd) (q := q) ?_ ⟨he.p, hgs.st, hgs.z.T⟩ ⟨rfl, hfin.1, ?_⟩
        · have hS4 : Sat E _ (cel b ⟨171, dcCells t wd true⟩ :: cel t ⟨141, tbCells e.p gs.st q⟩ :: Win wd gs.x :: tabs q gs.z.T :: M) := hS.to
          exact hS4
        · have h1 := hfin.2.1
          have h2 := hfin.2.2 (by show ((0 : Nat) : Int) ≤ n; omega)
          have h3 : gs.x.all.length + 0 = e.x.all.length + gs.out.length := h1
          show gs.x.all.length ≤ _
          omega
    · have e2 : (Z.DS.ok e).take l n = ⟨.sp e.p e.x.size (e.x.all.length + n.toNat), 2, [], []⟩ := by
        unfold Z.DS.take
        rw [if_pos ⟨n0, n1⟩]
        simp only [htk]
      rw [e2] at hQ
      repeat' (first | refine pIf_t ?_ | (refine pN_s hS (by first | exact Nat.le_of_ble_eq_true rfl | assumption) (by rfl) ?_; clear hS; intro w hS; try simp only [List.set_cons_zero, List.set_cons_succ] at hS) | refine pN_via (by (intro K; simp (disch := omega) only [go_sem, pN_min, pN_max, w_u32, w_u64, Option.isNone_some, Option.isNone_none]; (try simp only [wrap_u32, wrap_u64]); rfl)) ?_ | fail)
      refine hQ ⟨none, 0⟩ ⟨none, 0⟩ _ (nil_rows ?_)
      refine LDec.shut (b := b) (d := .sp e.p e.x.size (e.x.all.length + n.toNat)) (e := f) (t := t) (wd := wd) (q := q) ?_ hf1 ⟨hf2, hf3, hf4⟩
      have hS4 : Sat E _ (cel b ⟨171, dcCells t wd true⟩ :: cel t ⟨141, tbCells f.p f.st q⟩ :: Win wd f.x :: tabs q f.T :: M) := hS.to
      exact hS4
end

end Go.Proofs.YtbgnnjfpiblkmaaGreatDoor

namespace Go.Proofs.YtbgnnjfpiblkmaaGreatDoor
open Go
set_option linter.unusedSimpArgs false
set_option linter.unnecessarySimpa false
set_option linter.unusedSectionVars false
set_option linter.unusedVariables false
namespace Z
def kept (e : EZ) : List Y → List Y
  | [] => []
  | y :: ys => if e.may y = 0 then y :: kept (e.put1 y) ys else kept e ys
end Z

end Go.Proofs.YtbgnnjfpiblkmaaGreatDoor

namespace Go.Proofs.YtbgnnjfpiblkmaaGreatDoor
open Go
set_option linter.unusedSimpArgs false
set_option linter.unnecessarySimpa false
set_option linter.unusedSectionVars false
set_option linter.unusedVariables false

theorem laid_get12 {W : World} {l : List (String × DataW Unit)} {ps : List MemPlace} (hl : DataW.LaidVars Tryz.prog W l ps) {n : String} {g : Nat} (k : Int) (hm : (n, DataW.agg (((List.range 12).map fun i : Nat => Z.moved (i : Int) k).map fun z => .lit (.int .i64 z))) ∈ l)
    (hg : Tryz.prog.globalNamed n = some g) (ht : (Tryz.prog.globals[g]?).map (·.type) = some 234) (i : Nat) (hi : i < 12) : W.cell? ⟨g, i, none⟩ = some (.int .i64 (Z.moved i k)) :=
  laid_ints hl ((List.range 12).map fun i : Nat => Z.moved (i : Int) k) hm hg ht Tryz.underlying234 (by kernel_rfl) Tryz.underlying3 i (Z.moved i k) hi (by rw [List.getElem?_map, List.getElem?_range hi]; rfl)

theorem glo_of_laid {W : World} {l : List (String × DataW Unit)} (h : laidMetH Tryz.prog l W) (hp : (l.filter fun x => x.2.handleName?.isSome) = []) (m1 : ("pith/state.afterLit", Rows.laid_pith_state_afterLit) ∈ l) (m2 : ("pith/state.afterMatch", Rows.laid_pith_state_afterMatch) ∈ l)
    (m3 : ("pith/state.afterRep", Rows.laid_pith_state_afterRep) ∈ l) (m4 : ("pith/state.afterShort", Rows.laid_pith_state_afterShort) ∈ l) : Glo W := by
  unfold laidMetH at h
  rw [hp] at h
  obtain ⟨ps, hv, _⟩ := h
  exact ⟨laid_get12 hv 1 m1 (by kernel_rfl) (by kernel_rfl), laid_get12 hv 2 m2 (by kernel_rfl) (by kernel_rfl), laid_get12 hv 3 m3 (by kernel_rfl) (by kernel_rfl), laid_get12 hv 4 m4 (by kernel_rfl) (by kernel_rfl)⟩

instance : DecidableEq Z.Y := fun a b => decidable_of_iff (a.Kind = b.Kind ∧ a.Byte = b.Byte ∧ a.Len = b.Len ∧ a.Dist = b.Dist) ⟨fun h => by
  obtain ⟨a1, a2, a3, a4⟩ := a
  obtain ⟨b1, b2, b3, b4⟩ := b
  obtain ⟨h1, h2, h3, h4⟩ := h
  simp only at h1 h2 h3 h4
  rw [h1, h2, h3, h4], fun h => by rw [h]; exact ⟨rfl, rfl, rfl, rfl⟩⟩
abbrev symV (y : Z.Y) : Value := .agg #[.int .i64 y.Kind, bv y.Byte, .int .i64 y.Len, .int .i64 y.Dist]
theorem eqs_sym (y z : Z.Y) (w : World) : (Op.equalIn 10000 48 (symV y) (symV z)).run Tryz.prog w = .ok (decide (y = z)) w := by
  have u3 := Tryz.underlying3
  have a3 := Tryz.isAgg3
  have z3 := Tryz.sizeOf3
  have u5 := Tryz.underlying5
  have a5 := Tryz.isAgg5
  have z5 := Tryz.sizeOf5
  have hS : Tryz.prog.underlying 48 = some (.struct (Tryz.prog.fieldsOf 48)) := by kernel_rfl
  rw [show (10000 : Nat) = 9999 + 1 from rfl, run_equalIn_agg w 9999 48 _ _ hS (by kernel_rfl)]
  simp only [Program.fieldsOf, Tryz.underlying48]
  obtain ⟨a, b, c, d⟩ := y
  obtain ⟨a', b', c', d'⟩ := z
  unfold bv
  go_simp
  by_cases h2 : b = b'
  · subst h2
    by_cases h1 : a = a' <;> by_cases h3 : c = c' <;> by_cases h4 : d = d' <;> simp [h1, h3, h4]
  · have h5 : ¬ (b.toNat : Int) = b'.toNat := fun h => h2 (UInt8.toNat_inj.1 (by omega))
    by_cases h1 : a = a' <;> by_cases h3 : c = c' <;> by_cases h4 : d = d' <;> simp [h1, h2, h3, h4, h5]
section
variable {K : Value → World → Prop} {xo yo : Operand} {w : World} {y z : Z.Y}
theorem run_eql_sym : (oBin .eql 48 xo yo (symV y) (symV z)).run Tryz.prog w = .ok (.value (.bool (decide (y = z)))) w :=
  run_bin_of 48 xo yo (run_eqGuard_agg w _ _ _ _ _ _ (by kernel_rfl)) (by rw [run_eql_struct, eqs_sym]; rfl)
theorem pN_eqs (ht : y = z → K (.bool true) w) (hf : ¬ y = z → K (.bool false) w) : pN Tryz.prog (oBin .eql 48 xo yo (symV y) (symV z)) w K := by
  rw [pN_def, run_eql_sym, rN_value]
  by_cases h : y = z
  · rw [decide_eq_true h]; exact ht h
  · rw [decide_eq_false h]; exact hf h
end

namespace Z
theorem known15_p : (⟨3, 0, 2⟩ : Pr).Ok := by decide
theorem known15 : ((DZ.new ⟨3, 0, 2⟩ 4096).take (List.replicate 6 0) 1).map (fun r => (r.2.1, r.2.2)) = some ([⟨1, 0, 0, 0⟩], [0]) := by kernel_rfl
theorem fixed_take : ∃ d, (DS.ok (DZ.new ⟨3, 0, 2⟩ 4096)).take (List.replicate 6 0) 1 = ⟨d, 0, [⟨1, 0, 0, 0⟩], [0]⟩ := by
  have h := known15
  unfold DS.take
  rw [if_pos ⟨by decide, by decide⟩]
  simp only
  cases e : (DZ.new ⟨3, 0, 2⟩ 4096).take (List.replicate 6 0) 1 with
  | none => rw [e] at h; cases h
  | some r =>
    rw [e] at h
    obtain ⟨r0, r1, r2⟩ := r
    cases h
    exact ⟨.ok r0, rfl⟩
end Z
attribute [local irreducible] oMv oV oU oCall oCallV oBi oBin oUn oLoad oStore oNil oFld oField oIdx oIndex oPick oAlloc oBox oBuild oBs oConv oMk oSl oExt oFn oIface oMap oLook oMapUp oRange oNext oEntry oInv oAssert oPanic oRes pN pA pL pDr pIf gA pGd

section
variable {E w W : World} {M N : List HA} {Q : Value → World → Prop}

theorem both_in {p : Z.Pr} (hS : Sat E w M) (hp : p.Ok) (n : Int) (h0 : 1 ≤ n) (h1 : n ≤ 4294967295) (hQ : ∀ e d w, Sat E w (LEnc e (Z.EZ.new p n) :: LDec d (.ok (Z.DZ.new p n)) :: M) → Q (.tuple #[pz e, pz d, .bool true]) w) :
    Calls Tryz.prog 37 #[.agg #[.int .i64 p.lc, .int .i64 p.lp, .int .i64 p.pb], .int .i64 n] w (retP Q) := by
  refine pithlaw15_both.calls ?_
  unfold pithlaw15_both.F
  repeat' (first | refine pN_la_at (n := 3) hS p.cells rfl rfl ?_ | (refine pN_bx hS (by rfl) ?_; clear hS; intro a w hS) | fail)
  refine pc_lzenc_New (LNew_in (p := p) hS hp n h0 h1 fun e w hS => ?_)
  repeat' (first | refine pN_la_at (n := 3) hS p.cells rfl rfl ?_ | refine pN_via (by (intro K; simp (disch := omega) only [go_sem, pN_min, pN_max, w_u32, w_u64, Option.isNone_some, Option.isNone_none]; (try simp only [wrap_u32, wrap_u64]); rfl)) ?_ | fail)
  refine pc_lzdec_New (DcNew_in (p := p) hS hp n h0 h1 fun d w hS => ?_)
  repeat' (first | ((first | refine pN_eql_s ?_ ?_ | refine pN_neq_s ?_ ?_) <;> intro hc <;> try (exfalso; first | omega | exact hc rfl | exact hc (by assumption) | exact absurd hc (by assumption))) | refine pGd_go (by rfl) ?_ | refine pN_via (by (intro K; simp (disch := omega) only [go_sem, pN_min, pN_max, w_u32, w_u64, Option.isNone_some, Option.isNone_none]; (try simp only [wrap_u32, wrap_u64]); rfl)) ?_ | fail)
  exact hQ _ _ _ hS.to
theorem both_no {p : Z.Pr} (hS : Sat E w M) (n : Int) (hpb : -9223372036854775808 ≤ p.lc ∧ p.lc < 9223372036854775808) (h : ¬ (p.Ok ∧ 1 ≤ n ∧ n ≤ 4294967295)) (hQ : ∀ w, Sat E w M → Q (.tuple #[.pointer none, .pointer none, .bool true]) w) :
    Calls Tryz.prog 37 #[.agg #[.int .i64 p.lc, .int .i64 p.lp, .int .i64 p.pb], .int .i64 n] w (retP Q) := by
  refine pithlaw15_both.calls ?_
  unfold pithlaw15_both.F
  repeat' (first | refine pN_la_at (n := 3) hS p.cells rfl rfl ?_ | (refine pN_bx hS (by rfl) ?_; clear hS; intro a w hS) | fail)
  refine pc_lzenc_New (LNew_no (p := p) hS n hpb h fun w hS => ?_)
  repeat' (first | refine pN_la_at (n := 3) hS p.cells rfl rfl ?_ | refine pN_via (by (intro K; simp (disch := omega) only [go_sem, pN_min, pN_max, w_u32, w_u64, Option.isNone_some, Option.isNone_none]; (try simp only [wrap_u32, wrap_u64]); rfl)) ?_ | fail)
  refine pc_lzdec_New (DcNew_no (p := p) hS n hpb h fun w hS => ?_)
  by_cases hp : p.Ok
  · simp only [if_pos hp]
    repeat' (first | ((first | refine pN_eql_s ?_ ?_ | refine pN_neq_s ?_ ?_) <;> intro hc <;> try (exfalso; first | omega | exact hc rfl | exact hc (by assumption) | exact absurd hc (by assumption))) | refine pGd_go (by rfl) ?_ | refine pN_via (by (intro K; simp (disch := omega) only [go_sem, pN_min, pN_max, w_u32, w_u64, Option.isNone_some, Option.isNone_none]; (try simp only [wrap_u32, wrap_u64]); rfl)) ?_ | fail)
    exact hQ _ hS.to
  · simp only [if_neg hp]
    repeat' (first | ((first | refine pN_eql_s ?_ ?_ | refine pN_neq_s ?_ ?_) <;> intro hc <;> try (exfalso; first | omega | exact hc rfl | exact hc (by assumption) | exact absurd hc (by assumption))) | refine pGd_go (by rfl) ?_ | refine pN_via (by (intro K; simp (disch := omega) only [go_sem, pN_min, pN_max, w_u32, w_u64, Option.isNone_some, Option.isNone_none]; (try simp only [wrap_u32, wrap_u64]); rfl)) ?_ | fail)
    exact hQ _ hS.to

set_option maxRecDepth 8000 in
theorem fixed15_ok (hG : Glo W) (hS : Sat E w M) [h : Has (old W) M N] (hQ : ∀ w, Sat E w M → Q (.bool true) w) : Calls Tryz.prog 10 #[] w (retP Q) := by
  refine pithlaw15_fixed.calls ?_
  unfold pithlaw15_fixed.F
  obtain ⟨d', hd⟩ := Z.fixed_take
  repeat' (first | refine pN_via (by (intro K; simp (disch := omega) only [go_sem, pN_min, pN_max, w_u32, w_u64, Option.isNone_some, Option.isNone_none]; (try simp only [wrap_u32, wrap_u64]); rfl)) ?_ | fail)
  refine pc_lzdec_New (DcNew_in (p := ⟨3, 0, 2⟩) hS Z.known15_p 4096 (by decide) (by decide) fun d w hS => ?_)
  have hlen : (Z.DS.ok (Z.DZ.new ⟨3, 0, 2⟩ 4096)).len = 0 := rfl
  generalize Z.DZ.new ⟨3, 0, 2⟩ 4096 = e at *
  have hx : (Z.DS.ok e).len + 2097152 + 273 ≤ 4611686018427387904 := by rw [hlen]; decide
  repeat' (first | (refine pN_neq_s ?_ ?_ <;> intro hc <;> try (exfalso; first | omega | exact hc rfl | exact hc (by assumption) | exact absurd hc (by assumption))) | refine pIf_f ?_ | refine pGd_go (by rfl) ?_ | (refine pN_mk hS _ (by first | rfl | (exact (Int.toNat_of_nonneg (by omega)).symm)) (by first | omega | (simp only [go_sem]; omega)) ?_; clear hS; intro s w hS) | refine pN_via (by (intro K; simp (disch := omega) only [go_sem, pN_min, pN_max, w_u32, w_u64, Option.isNone_some, Option.isNone_none]; (try simp only [wrap_u32, wrap_u64]); rfl)) ?_ | fail)
  have hS : Sat E _ (rows cd_uint8 s (List.replicate 6 0) :: LDec d (.ok e) :: M) := hS
  refine pc_lzdec_Decoder_Take (DcTake_ok (l := List.replicate 6 0) (s0 := s) hG (hS.fd (LDec d)) (by decide) 1 hx fun sl so w hS => ?_)
  rw [hd] at hS ⊢
  have hy0 : ([⟨1, 0, 0, 0⟩] : List Z.Y)[0]? = some ⟨1, 0, 0, 0⟩ := rfl
  repeat' (first | refine pN_eqs (y := ⟨1, 0, 0, 0⟩) (z := ⟨1, 0, 0, 0⟩) ?_ ?_ <;> intro hc <;> try (exfalso; exact hc rfl) | ((first | refine pN_eql_s ?_ ?_ | refine pN_eql_ss ?_ ?_) <;> intro hc <;> try (exfalso; first | omega | exact hc rfl | exact hc (by assumption) | exact absurd hc (by assumption))) | refine pGd_go (by rfl) ?_ | refine pN_ld_at ha hS (by rfl) ?_ | refine pN_ixk hS _ (by first | rfl | (exact (Int.toNat_of_nonneg (by omega)).symm)) (by first | rfl | omega | simpa only [go_sem] using True.intro | (simp only [go_sem]; omega)) (by assumption) fun a ha hel => ?_ | refine pN_st hS (by first | rfl | omega | simpa only [go_sem] using True.intro | (simp only [go_sem]; omega)) ?_ | refine pN_via (by (intro K; simp (disch := omega) only [go_sem, pN_min, pN_max, w_u32, w_u64, Option.isNone_some, Option.isNone_none]; (try simp only [wrap_u32, wrap_u64]); rfl)) ?_ | fail)
  exact hQ _ hS.to
end

end Go.Proofs.YtbgnnjfpiblkmaaGreatDoor

namespace Go.Proofs.YtbgnnjfpiblkmaaGreatDoor
open Go
set_option linter.unusedSimpArgs false
set_option linter.unnecessarySimpa false
set_option linter.unusedSectionVars false
set_option linter.unusedVariables false
namespace Z
theorem EZ.valid_append : ∀ (a : List Y) (e : EZ) (b : List Y), e.valid (a ++ b) ↔ e.valid a ∧ (e.putV a).valid b
  | [], e, b => by simp [EZ.valid, EZ.putV]
  | y :: a, e, b => by simp only [List.cons_append, EZ.valid, EZ.putV, EZ.valid_append a]; exact and_assoc.symm
theorem EZ.valid_at {e : EZ} {l : List Y} (h : e.valid l) {i : Nat} {y : Y} (hy : l[i]? = some y) : e.valid (l.take i) ∧ (e.putV (l.take i)).may y = 0 := by
  have hlt := (List.getElem?_eq_some_iff.1 hy).1
  have hsn : l.take (i + 1) = l.take i ++ [y] := by rw [List.take_add_one, hy]; rfl
  rw [← List.take_append_drop (i + 1) l, EZ.valid_append, hsn, EZ.valid_snoc] at h
  exact h.1
theorem EZ.valid_take {e : EZ} {l : List Y} (h : e.valid l) (i : Nat) : e.valid (l.take i) := by
  rw [← List.take_append_drop i l, EZ.valid_append] at h
  exact h.1
theorem start_1 (l : List UInt8) : ∃ e, D.start (1 :: l) = .no e := by
  unfold D.start
  split
  · exact ⟨_, rfl⟩
  · rw [if_pos (.inl (by simp))]
    exact ⟨_, rfl⟩
theorem take_start {e : DZ} {b : List UInt8} {n er : Int} (h : D.start b = .no er) : e.take b n = none := by
  unfold DZ.take
  rw [h]
theorem DS.take_no {e : DZ} {b : List UInt8} {n : Int} (hn : 1 ≤ n ∧ n ≤ 2097152) (h : e.take b n = none) : (DS.ok e).take b n = ⟨.sp e.p e.x.size (e.x.all.length + n.toNat), 2, [], []⟩ := by
  unfold DS.take
  rw [if_pos hn]
  simp only [h]
theorem DS.take_in {e : DZ} {b : List UInt8} {n : Int} (hn : 1 ≤ n ∧ n ≤ 2097152) {r : DZ × List Y × List UInt8} (h : e.take b n = some r) : (DS.ok e).take b n = ⟨.ok r.1, 0, r.2.1, r.2.2⟩ := by
  unfold DS.take
  rw [if_pos hn]
  simp only [h]
theorem DS.take_sp {p : Pr} {z : Int} {m : Nat} {b : List UInt8} {n : Int} (hn : 1 ≤ n ∧ n ≤ 2097152) : (DS.sp p z m).take b n = ⟨.sp p z m, 2, [], []⟩ := by
  unfold DS.take
  rw [if_pos hn]
end Z
attribute [local irreducible] oMv oV oU oCall oCallV oBi oBin oUn oLoad oStore oNil oFld oField oIdx oIndex oPick oAlloc oBox oBuild oBs oConv oMk oSl oExt oFn oIface oMap oLook oMapUp oRange oNext oEntry oInv oAssert oPanic oRes pN pA pL pDr pIf gA pGd

section
variable {E w W : World} {M N : List HA} {Q : Value → World → Prop}

set_option maxHeartbeats 1000000 in
theorem Expand_in {s0 : Sl} {l : List Z.Y} {p : Z.Pr} {n : Int} {E0 : Z.EZ} (hG : Glo W) (hE : Z.EZ.new p n = E0) (hp : p.Ok) (h0 : 1 ≤ n) (h1 : n ≤ 4294967295) (hv : E0.valid l) (hS : Sat E w M) [h : Has (old W) M N] [hr : Rds cd_api_Symbol M s0 l] (hl : l.length ≤ 4194304)
    (hQ : ∀ so w, Sat E w (rows cd_uint8 so (E0.outs l) :: M) → Q (.tuple #[.slice so.a (E0.outs l).length so.c, .int .i64 l.length, .int .i64 0]) w) :
    Calls Tryz.prog 40 #[.int .i64 n, .slice s0.a l.length s0.c] w (retP Q) := by
  refine symbol_Expand.calls ?_
  unfold symbol_Expand.F
  have hE0 := Z.EZ.Ok.new hp n
  have hx0 : (Z.EZ.new p n).x = ⟨n, []⟩ := rfl
  have hs0 : (Z.EZ.new p n).st = Z.St.new := rfl
  rw [hE] at hE0 hx0 hs0
  repeat' (first | (refine pc_window_New (WNew_in hS n h0 h1 ?_); clear hS; intro wd w hS) | (refine pc_state_New (SNew_ok hS ?_); clear hS; intro w hS) | (refine pN_neq_s ?_ ?_ <;> intro hc <;> try (exfalso; first | omega | exact hc rfl | exact hc (by assumption) | exact absurd hc (by assumption))) | refine pIf_f ?_ | (refine pN_sa hS (by rfl) (by rfl) (by rfl) ?_; clear hS; intro w hS; try dsimp only at hS) | (refine pN_nz hS ?_; clear hS; intro a w hS) | refine pN_via (by (intro K; simp (disch := omega) only [go_sem, pN_min, pN_max, w_u32, w_u64, Option.isNone_some, Option.isNone_none]; (try simp only [wrap_u32, wrap_u64]); rfl)) ?_ | fail)
  revert a
  intro ad hS
  have hS : Sat E _ (rows cd_uint8 ⟨none, 0⟩ [] :: _) := hS.nil 5 1
  have hS0 : Sat E _ (rows cd_uint8 ⟨none, 0⟩ [] :: cel ad ⟨100, Z.St.new.cells⟩ :: Win wd ⟨n, []⟩ :: M) := hS
  clear hS
  refine ⟨fun v i w => ∃ (k : Nat) (so : Sl), v = .slice so.a (E0.outs (l.take k)).length so.c ∧ i = .int .i64 k ∧ k ≤ l.length ∧ Sat E w (rows cd_uint8 so (E0.outs (l.take k)) :: cel ad ⟨100, (E0.putV (l.take k)).st.cells⟩ :: Win wd (E0.putV (l.take k)).x :: M), fun _ i _ => l.length - (RowKit.intOf i).toNat,
    ⟨0, ⟨none, 0⟩, rfl, rfl, Nat.zero_le _, ?_⟩, ?_⟩
  · have e1 : E0.outs (l.take 0) = [] := rfl
    have e2 : E0.putV (l.take 0) = E0 := rfl
    rw [e1, e2, hx0, hs0]
    exact hS0
  clear hS0
  rintro _ _ _ w ⟨k, so, rfl, rfl, hk, hS⟩
  have hvk := Z.EZ.valid_take hv k
  have hlen := Z.EZ.outs_len _ hvk
  have hsz := Z.sizes_pos _ hvk
  rw [List.length_take, Nat.min_eq_left hk] at hsz
  have hok := (Z.EZ.Ok.putV _ hE0 hvk).1
  have hxl : (E0.putV (l.take k)).x.all.length = (E0.outs (l.take k)).length := by rw [Z.EZ.putV_x, hx0]; simp
  by_cases hlt : k < l.length
  · obtain ⟨y, hy⟩ : ∃ y, l[k]? = some y := ⟨l[k]'hlt, by simp⟩
    have hm := (Z.EZ.valid_at hv hy).2
    have hsn : l.take (k + 1) = l.take k ++ [y] := by rw [List.take_add_one, hy]; rfl
    have ho1 : E0.outs (l.take (k + 1)) = E0.outs (l.take k) ++ Z.made (E0.putV (l.take k)).x (E0.putV (l.take k)).st y := by rw [hsn, Z.EZ.outs_snoc]
    have hp1 : E0.putV (l.take (k + 1)) = (E0.putV (l.take k)).put1 y := by rw [hsn, Z.EZ.putV_snoc]
    have hml := Z.made_len (x := (E0.putV (l.take k)).x) (s := (E0.putV (l.take k)).st) (Z.may_err hm)
    have hsb := Z.size_bd (Z.may_err hm)
    generalize E0.putV (l.take k) = Z1 at *
    generalize E0.outs (l.take k) = o at *
    have hm : Z.may Z1.x Z1.st y = 0 := hm
    repeat' (first | refine pN_ixk hS k rfl rfl hy (fun a ha hel => ?_) | refine pN_la_at (n := 5) hS Z1.st.cells rfl rfl ?_ | (refine pc_symbol_Apply (Apply_in (y := y) hG (hS.fd (Win wd)) hok.st hm (by omega) ?_); clear hS; intro s' w hS) | (refine pN_lss_s ?_ ?_ <;> intro hc <;> try (exfalso; omega)) | (refine pN_neq_s ?_ ?_ <;> intro hc <;> try (exfalso; first | omega | exact hc rfl | exact hc (by assumption) | exact absurd hc (by assumption))) | refine pIf_t ?_ | refine pIf_f ?_ | refine pN_ld_at ha hS (by rfl) ?_ | refine pN_la hS (by rfl) ?_ | (refine pN_sa hS (by rfl) (by rfl) (by rfl) ?_; clear hS; intro w hS; try dsimp only at hS) | (refine pN_nz hS ?_; clear hS; intro a w hS) | (refine pN_app hS (by first | rfl | omega | simpa only [go_sem] using True.intro | (simp only [go_sem]; omega)) (by first | rfl | omega | simpa only [go_sem] using True.intro | (simp only [go_sem]; omega)) (by first | omega | (simp only [go_sem]; omega)) ?_; clear hS; intro s w hS) | refine pN_via (by (intro K; simp (disch := omega) only [go_sem, pN_min, pN_max, w_u32, w_u64, Option.isNone_some, Option.isNone_none]; (try simp only [wrap_u32, wrap_u64]); rfl)) ?_ | fail)
    refine ⟨⟨k + 1, _, by rw [ho1], rfl, by omega, ?_⟩, by simp [RowKit.intOf]; omega⟩
    rw [ho1, hp1]
    have hS5 : Sat E _ (rows cd_uint8 s (o ++ Z.made Z1.x Z1.st y) :: cel ad ⟨100, (Z1.st.next y).cells⟩ :: Win wd (Z1.x.put (Z.made Z1.x Z1.st y)) :: M) := hS.to
    exact hS5
  · obtain rfl : k = l.length := by omega
    rw [List.take_length] at *
    repeat' (first | (refine pN_lss_s ?_ ?_ <;> intro hc <;> try (exfalso; omega)) | refine pIf_f ?_ | refine pN_via (by (intro K; simp (disch := omega) only [go_sem, pN_min, pN_max, w_u32, w_u64, Option.isNone_some, Option.isNone_none]; (try simp only [wrap_u32, wrap_u64]); rfl)) ?_ | fail)
    exact hQ _ _ hS.to

end

end Go.Proofs.YtbgnnjfpiblkmaaGreatDoor

namespace Go.Proofs.YtbgnnjfpiblkmaaGreatDoor
open Go
set_option linter.unusedSimpArgs false
set_option linter.unnecessarySimpa false
set_option linter.unusedSectionVars false
set_option linter.unusedVariables false
namespace Z

def look (A : List (Nat × Nat × Int)) (t i : Nat) : Int := match A with
  | [] => 1024
  | (u, j, v) :: A => if u = t ∧ j = i then v else look A t i
structure LR where
  d : D.S
  A : List (Nat × Nat × Int)
def LR.ask (z : LR) (t : Nat) (i : Int) : Option (LR × Int) :=
  if t = 18 then match z.d.direct 0 1 with
    | .ok d v => some (⟨d, z.A⟩, v)
    | .no _ => none
  else match z.d.bit (B.bound z.d.R (look z.A t i.toNat)) with
    | .ok d v => some (⟨d, (t, i.toNat, B.next (look z.A t i.toNat) v) :: z.A⟩, v)
    | .no _ => none
def Rd.light {α : Type} : Rd α → LR → Option (LR × α)
  | .ret a, z => some (z, a)
  | .bit t i k, z => match z.ask t i with
    | none => none
    | some (y, b) => (k b).light y
structure Alike (p : Pr) (z : RS) (y : LR) : Prop where
  d : z.d = y.d
  len : ∀ t, t < 18 → (z.T t).length = tabLen p t
  v : ∀ t i, t < 18 → i < tabLen p t → (z.T t).getD i 0 = look y.A t i
theorem Alike.ask {p : Pr} {z : RS} {y : LR} (h : Alike p z y) {t : Nat} {i : Int} (ht : t = 18 ∨ t < 18 ∧ 0 ≤ i ∧ i < tabLen p t) :
    (y.ask t i = none → z.ask t i = none) ∧ ∀ y' b, y.ask t i = some (y', b) → ∃ z', z.ask t i = some (z', b) ∧ Alike p z' y' := by
  unfold LR.ask RS.ask
  by_cases h18 : t = 18
  · simp only [h18, if_true, h.d]
    cases e : y.d.direct 0 1 with
    | ok d v =>
      refine ⟨fun h => by simp at h, fun y' b hb => ?_⟩
      cases hb
      exact ⟨_, rfl, ⟨rfl, h.len, h.v⟩⟩
    | no e' => exact ⟨fun _ => rfl, nofun⟩
  · obtain ⟨t18, i0, i1⟩ := ht.resolve_left h18
    have hv := h.v t i.toNat t18 (by omega)
    simp only [if_neg h18, h.d, hv]
    cases e : y.d.bit (B.bound y.d.R (look y.A t i.toNat)) with
    | ok d v =>
      refine ⟨fun h => by simp at h, fun y' b hb => ?_⟩
      cases hb
      refine ⟨_, rfl, ⟨rfl, fun u hu => ?_, fun u j hu hj => ?_⟩⟩
      · simp only [upd]
        split
        · rename_i e; subst e; rw [List.length_set]; exact h.len u hu
        · exact h.len u hu
      · simp only [upd, look]
        have hlen := h.len u hu
        by_cases hut : u = t
        · subst hut
          rw [if_pos rfl]
          by_cases hji : j = i.toNat
          · subst hji
            rw [if_pos ⟨rfl, rfl⟩, List.getD_eq_getElem?_getD, List.getElem?_set_self (by omega)]
            rfl
          · rw [if_neg (fun h => hji h.2.symm), List.getD_eq_getElem?_getD, List.getElem?_set_ne (fun h => hji h.symm), ← List.getD_eq_getElem?_getD]
            exact h.v u j hu hj
        · rw [if_neg hut, if_neg (fun h => hut h.1.symm)]
          exact h.v u j hu hj
    | no e' => exact ⟨fun _ => rfl, nofun⟩
theorem Rd.light_run {α : Type} {p : Pr} : ∀ (r : Rd α) {z : RS} {y : LR}, r.Ok p → Alike p z y → (r.light y = none → r.run z = none) ∧ ∀ y' v, r.light y = some (y', v) → ∃ z', r.run z = some (z', v) ∧ Alike p z' y'
  | .ret a, z, y, _, h => by
    refine ⟨fun e => by simp [Rd.light] at e, fun y' v e => ?_⟩
    simp only [Rd.light, Option.some.injEq, Prod.mk.injEq] at e
    obtain ⟨rfl, rfl⟩ := e
    exact ⟨z, rfl, h⟩
  | .bit t i k, z, y, hr, h => by
    obtain ⟨h1, h2⟩ := h.ask hr.1
    simp only [Rd.light, Rd.run]
    cases e : y.ask t i with
    | none => rw [h1 e]; exact ⟨fun _ => rfl, nofun⟩
    | some yb =>
      obtain ⟨y1, b⟩ := yb
      obtain ⟨z1, h3, h4⟩ := h2 y1 b e
      rw [h3]
      exact light_run (k b) (hr.2 b (ask_01 h3)) h4

def symRd0 (num t : Int) : Rd Y :=
  .bit 0 (num * 16) fun b => if b = 0 then (if num < 7 then treeRd false 6 0 8 else litGoRd 0 t 8 1 true).map fun m => ⟨1, byteOf m, 0, 0⟩
  else .bit 2 num fun b => if b = 0 then (lenRd 7 ⟨0, 0, 0⟩ 0).bind fun n => (distRd n).map fun d => ⟨2, 0, n, d⟩
  else .bit 3 num fun b => if b = 0 then .bit 1 (num * 16) fun b => if b = 0 then .ret ⟨4, 0, 0, 0⟩ else repRd ⟨0, 0, 0⟩ 0 0
  else .bit 4 num fun b => if b = 0 then repRd ⟨0, 0, 0⟩ 0 1
  else .bit 5 num fun b => repRd ⟨0, 0, 0⟩ 0 (2 + b)
theorem place0 (n : Int) : place ⟨0, 0, 0⟩ n = 0 := by
  unfold place
  simp [Int.emod_one]
theorem context0 (n : Int) (b : UInt8) : context ⟨0, 0, 0⟩ n b.toNat = 0 := by
  unfold context
  have := b.toNat_lt
  have e : (2 : Int) ^ ((8 : Int) - 0).toNat = 256 := by decide
  simp only [e]
  have : (b.toNat : Int) / 256 = 0 := by omega
  rw [this]
  simp [Int.emod_one]
theorem lenRd0 (c : Nat) (n : Int) : lenRd c ⟨0, 0, 0⟩ n = lenRd c ⟨0, 0, 0⟩ 0 := by
  unfold lenRd
  rw [place0, place0]
theorem symRd_0 (s : St) (x : W) : symRd ⟨0, 0, 0⟩ s x = symRd0 s.num (lastOr x s.r0).toNat := by
  unfold symRd symRd0 litRd repRd
  rw [place0, context0, lenRd0 7, lenRd0 11, Int.add_zero]
theorem symRd0_t {num t u : Int} (h : num < 7) : symRd0 num t = symRd0 num u := by
  unfold symRd0
  rw [if_pos h, if_pos h]

def rawB (i : Nat) : UInt8 := byteOf ((i : Int) * 7 / 8)
structure Raw (r : List UInt8) : Prop where
  len : r.length = 66000
  get : ∀ i, i < 66000 → r[i]? = some (rawB i)
theorem Raw.of : Raw ((List.range 66000).map rawB) := ⟨by rw [List.length_map, List.length_range], fun i hi => by rw [List.getElem?_map, List.getElem?_range hi]; rfl⟩
structure LL where
  st : St
  n : Nat
  z : LR
  l : List Y
inductive LO
  | stuck
  | no
  | go (s : LL)
def LL.t (s : LL) : Int := (rawB (66000 + s.n - s.st.r0.toNat)).toNat
def LL.step (n : Int) (s : LL) : LO :=
  if s.st.num < 7 ∨ (s.n : Int) < s.st.r0 ∧ s.st.r0 ≤ 66000 + s.n then
    match (symRd0 s.st.num s.t).light s.z with
    | none => .no
    | some (z, y) => if errY y = 0 ∧ (y.Kind = 1 ∨ 1 ≤ dist s.st y ∧ dist s.st y ≤ 66000 + s.n) ∧ size y ≤ n - s.n then .go ⟨s.st.next y, s.n + (size y).toNat, z, s.l ++ [y]⟩ else .stuck
  else .stuck
def LL.loop (n : Int) : Nat → LL → LO
  | 0, s => if (s.n : Int) < n then .stuck else .go s
  | f + 1, s => if (s.n : Int) < n then match s.step n with
    | .go t => t.loop n f
    | r => r
    else .go s
structure Same (r : List UInt8) (s : LS) (t : LL) : Prop where
  st : s.st = t.st
  right : s.st.Right
  x : s.x = ⟨131072, r ++ s.out⟩
  raw : Raw r
  n : s.out.length = t.n
  z : Alike ⟨0, 0, 0⟩ s.z t.z
  l : s.l = t.l
theorem p0 : (⟨0, 0, 0⟩ : Pr).Ok := by decide
theorem Same.lastOr {r : List UInt8} {s : LS} {t : LL} (h : Same r s t) (hn : t.n ≤ 60000) (h1 : (t.n : Int) < t.st.r0) (h2 : t.st.r0 ≤ 66000 + t.n) : (lastOr s.x s.st.r0).toNat = t.t := by
  have hl := h.raw.len
  have hx : s.x.has s.st.r0 := by
    unfold W.has W.full
    rw [h.x, h.st]
    simp only [List.length_append, hl, h.n]
    have : (131072 : Int).toNat = 131072 := rfl
    omega
  unfold Z.lastOr
  rw [if_pos hx]
  unfold W.last LL.t
  rw [h.x, h.st]
  simp only [List.length_append, hl, h.n]
  rw [List.getElem?_append_left (by omega), h.raw.get _ (by omega)]
  rfl
theorem Same.step {r : List UInt8} {s : LS} {t : LL} {n : Int} (h : Same r s t) (hn : n ≤ 60000) (ht : (t.n : Int) < n) : (LL.step n t = .no → stepD ⟨0, 0, 0⟩ n s = none) ∧ ∀ t', LL.step n t = .go t' → ∃ s', stepD ⟨0, 0, 0⟩ n s = some s' ∧ Same r s' t' := by
  unfold LL.step
  by_cases hc : t.st.num < 7 ∨ (t.n : Int) < t.st.r0 ∧ t.st.r0 ≤ 66000 + t.n
  · rw [if_pos hc]
    have hsym : symRd ⟨0, 0, 0⟩ s.st s.x = symRd0 t.st.num t.t := by
      rw [symRd_0, h.st]
      rcases hc with hc | hc
      · exact symRd0_t hc
      · have := h.lastOr (by omega) hc.1 hc.2
        rw [h.st] at this
        rw [this]
    have hok := symRd_ok p0 h.right s.x
    obtain ⟨h1, h2⟩ := Rd.light_run _ hok h.z
    rw [hsym] at h1 h2
    cases e : (symRd0 t.st.num t.t).light t.z with
    | none =>
      refine ⟨fun _ => ?_, nofun⟩
      unfold stepD
      rw [hsym, h1 e]
    | some zy =>
      obtain ⟨z, y⟩ := zy
      obtain ⟨z', h3, h4⟩ := h2 z y e
      simp only
      split
      · rename_i hy
        refine ⟨nofun, fun t' e' => ?_⟩
        cases e'
        have hl := h.raw.len
        have hm : may s.x s.st y = 0 := by
          unfold may
          rw [if_neg (by have := hy.1; omega)]
          by_cases hk : y.Kind = 1
          · rw [if_pos hk]
          · rw [if_neg hk, if_pos]
            have hd := hy.2.1.resolve_left hk
            unfold W.has W.full
            rw [h.x, h.st]
            simp only [List.length_append, hl, h.n]
            have : (131072 : Int).toNat = 131072 := rfl
            omega
        have hml := made_len (x := s.x) (s := s.st) hy.1
        have hsz := size_bd hy.1
        refine ⟨s.step z' y, ?_, ⟨by simp only [LS.step, h.st], h.right.next hy.1, ?_, h.raw, ?_, h4, by simp only [LS.step, h.l]⟩⟩
        · unfold stepD
          rw [hsym, h3]
          simp only
          rw [if_pos ⟨hm, by rw [h.n]; exact hy.2.2⟩]
        · simp only [LS.step, W.put, h.x, List.append_assoc]
        · simp only [LS.step, List.length_append, h.n]
          omega
      · exact ⟨nofun, nofun⟩
  · rw [if_neg hc]
    exact ⟨nofun, nofun⟩
theorem Same.loop {r : List UInt8} {n : Int} (hn : n ≤ 60000) : ∀ (f : Nat) {s : LS} {t : LL}, Same r s t → (LL.loop n f t = .no → loopD ⟨0, 0, 0⟩ n f s = none) ∧ ∀ t', LL.loop n f t = .go t' → ∃ s', loopD ⟨0, 0, 0⟩ n f s = some s' ∧ Same r s' t' := by
  intro f
  induction f with
  | zero =>
    intro s t h
    rw [LL.loop, loopD, h.n]
    split
    · exact ⟨nofun, nofun⟩
    · exact ⟨nofun, fun t' e => by cases e; exact ⟨s, rfl, h⟩⟩
  | succ f ih =>
    intro s t h
    rw [LL.loop, loopD, h.n]
    split
    · rename_i hlt
      obtain ⟨h1, h2⟩ := h.step hn hlt
      cases e : LL.step n t with
      | stuck => exact ⟨nofun, nofun⟩
      | no => rw [h1 e]; exact ⟨fun _ => rfl, nofun⟩
      | go t1 =>
        obtain ⟨s1, h3, h4⟩ := h2 t1 e
        rw [h3]
        exact ih h4
    · exact ⟨nofun, fun t' e => by cases e; exact ⟨s, rfl, h⟩⟩

def oddFront : List UInt8 := [0, 153, 174, 167, 149, 183, 197, 29, 153, 136, 151, 70, 105, 79, 253, 11, 20, 99, 205, 158, 224, 190, 112, 92, 33, 177, 155, 191, 214, 184]
def wrongB : List UInt8 := oddFront ++ [82, 89, 74, 192, 0]
def rightB : List UInt8 := oddFront ++ [81, 89, 74, 192, 0]
def LL.start (d : D.S) : LL := ⟨St.new, 0, ⟨d, []⟩, []⟩
def startS (b : List UInt8) : D.S := match D.start b with
  | .ok d _ => d
  | .no _ => ⟨[], 0, 0, 0⟩
def LO.told : LO → Option (Nat × Nat × Int × Nat × List (Int × Nat × Int × Int))
  | .stuck => none
  | .no => some (0, 0, 0, 0, [])
  | .go t => some (t.z.d.k, t.z.d.b.length, t.z.d.C, t.n, t.l.map fun y => (y.Kind, y.Byte.toNat, y.Len, y.Dist))
set_option maxRecDepth 100000 in
theorem odd_right : (LL.loop 335 335 (LL.start (startS rightB))).told = some (35, 35, 0, 335, [(2, 0, 8, 11950), (2, 0, 7, 5618), (2, 0, 4, 14467), (2, 0, 7, 35409), (1, 56, 0, 0), (1, 91, 0, 0), (2, 0, 6, 1366), (2, 0, 4, 22918), (1, 103, 0, 0), (1, 114, 0, 0), (2, 0, 7, 2871), (2, 0, 5, 1568), (3, 0, 273, 3), (3, 0, 10, 3)]) := by kernel_rfl
set_option maxRecDepth 100000 in
theorem odd_wrong : (LL.loop 335 335 (LL.start (startS wrongB))).told = some (0, 0, 0, 0, []) := by kernel_rfl
theorem start_right : D.start rightB = .ok (startS rightB) () := by kernel_rfl
theorem start_wrong : D.start wrongB = .ok (startS wrongB) () := by kernel_rfl
theorem wrong_len : ¬ (startS wrongB).b.length = 0 := by decide +kernel
attribute [irreducible] LL.loop startS
theorem Same.start {r : List UInt8} (hr : Raw r) (d : D.S) : Same r (((DZ.new ⟨0, 0, 0⟩ 131072).raw r).ls d) (LL.start d) := by
  refine ⟨rfl, St.Right.new, ?_, hr, rfl, ⟨rfl, fun t ht => List.length_replicate, fun t i ht hi => ?_⟩, rfl⟩
  · simp [DZ.raw, DZ.new, DZ.ls, W.put]
  · show (List.replicate (tabLen ⟨0, 0, 0⟩ t) (1024 : Int)).getD i 0 = 1024
    rw [List.getD_eq_getElem?_getD, List.getElem?_replicate, if_pos hi]
    rfl
theorem oddP (r : List UInt8) : ((DZ.new ⟨0, 0, 0⟩ 131072).raw r).p = ⟨0, 0, 0⟩ := rfl
theorem oddK : (335 : Int).toNat = 335 := rfl
theorem odd_no {r : List UInt8} (hr : Raw r) : ((DZ.new ⟨0, 0, 0⟩ 131072).raw r).take wrongB 335 = none := by
  have h := (Same.loop (n := 335) (by decide) 335 (Same.start hr (startS wrongB))).1
  have h2 := odd_wrong
  unfold DZ.take
  rw [start_wrong]
  simp only
  cases e : LL.loop 335 335 (LL.start (startS wrongB)) with
  | stuck => rw [e] at h2; cases h2
  | no =>
    have h3 := h e
    rw [oddP, oddK, h3]
  | go t =>
    exfalso
    rw [e] at h2
    have h4 := congrArg (fun o => o.map fun x => x.2.1) h2
    simp only [LO.told, Option.map_some, Option.some.injEq] at h4
    obtain ⟨s', h5, h6⟩ := (Same.loop (n := 335) (by decide) 335 (Same.start hr (startS wrongB))).2 t e
    have hb : ∀ (k : Nat) {s u : LS}, loopD ⟨0, 0, 0⟩ 335 k s = some u → u.z.d.b = s.z.d.b := by
      intro k
      induction k with
      | zero =>
        intro s u h
        rw [loopD] at h
        split at h
        · cases h
        · cases h; rfl
      | succ k ih =>
        intro s u h
        rw [loopD] at h
        split at h
        · split at h
          · cases h
          · rename_i s' hs'
            obtain ⟨z, y, g1, _, _, rfl⟩ := stepD_some hs'
            rw [ih h]
            exact Rd.run_b _ g1
        · cases h; rfl
    have h7 := hb _ h5
    rw [h6.z.d] at h7
    rw [h7] at h4
    exact wrong_len h4
theorem odd_yes {r : List UInt8} (hr : Raw r) : ∃ d l out, ((DZ.new ⟨0, 0, 0⟩ 131072).raw r).take rightB 335 = some (d, l, out) ∧ l.length = 14 ∧ out.length = 335 ∧ l[0]? = some ⟨2, 0, 8, 11950⟩ := by
  have h := (Same.loop (n := 335) (by decide) 335 (Same.start hr (startS rightB))).2
  have h2 := odd_right
  unfold DZ.take
  rw [start_right]
  simp only
  cases e : LL.loop 335 335 (LL.start (startS rightB)) with
  | stuck => rw [e] at h2; cases h2
  | no =>
    rw [e] at h2
    have h4 := congrArg (fun o => o.map fun x => x.1) h2
    simp [LO.told] at h4
  | go t =>
    rw [e] at h2
    simp only [LO.told, Option.some.injEq, Prod.mk.injEq] at h2
    obtain ⟨k1, k2, k3, k4, k5⟩ := h2
    obtain ⟨s, h3, h4⟩ := h t e
    rw [oddP, oddK, h3]
    simp only
    rw [h4.z.d, if_pos ⟨by rw [k1, k2], k3⟩]
    refine ⟨_, _, _, rfl, ?_, ?_, ?_⟩
    · have := congrArg List.length k5
      rw [List.length_map] at this
      rw [h4.l, this]
      rfl
    · rw [h4.n, k4]
    · have h5 := congrArg (fun l => l[0]?) k5
      simp only [List.getElem?_map] at h5
      rw [h4.l]
      cases hl : t.l[0]? with
      | none => rw [hl] at h5; simp at h5
      | some y =>
        rw [hl] at h5
        obtain ⟨a, b, c, d⟩ := y
        simp at h5
        obtain ⟨rfl, h6, rfl, rfl⟩ := h5
        have hb : b = 0 := UInt8.toNat_inj.1 h6
        rw [hb]

end Z
end Go.Proofs.YtbgnnjfpiblkmaaGreatDoor

namespace Go.Proofs.YtbgnnjfpiblkmaaGreatDoor
open Go
set_option linter.unusedSimpArgs false
set_option linter.unnecessarySimpa false
set_option linter.unusedSectionVars false
set_option linter.unusedVariables false
instance strb : StrB Tryz.prog 9 30 cd_uint8 := ⟨Tryz.underlying9, Tryz.underlying30, Tryz.underlying5, rfl, fun _ => rfl⟩
theorem RdP.sub {α : Type} {C : Cd α} {A : HA} {s : Sl} {l : List α} (h : RdP C A s l) (a b : Nat) (h1 : a ≤ b) (h2 : b ≤ l.length) : RdP C A (s.sub a C.size) ((l.drop a).take (b - a)) := ⟨by
  have := RdA.sub h.rd a b h1 h2
  rw [subV_sl, C.flat_drop, C.flat_take] at this
  rw [show ((l.drop a).take (b - a)).length = b - a from by simp only [List.length_take, List.length_drop]; omega]
  exact this⟩
attribute [local irreducible] oMv oV oU oCall oCallV oBi oBin oUn oLoad oStore oNil oFld oField oIdx oIndex oPick oAlloc oBox oBuild oBs oConv oMk oSl oExt oFn oIface oMap oLook oMapUp oRange oNext oEntry oInv oAssert oPanic oRes pN pA pL pDr pIf gA pGd

section
variable {E w W : World} {M N : List HA} {Q : Value → World → Prop}

set_option maxRecDepth 8000 in
set_option maxHeartbeats 1000000 in
theorem odd15_ok (hG : Glo W) (hS : Sat E w M) [h : Has (old W) M N] (hQ : ∀ w, Sat E w M → Q (.bool true) w) : Calls Tryz.prog 38 #[] w (retP Q) := by
  refine pithlaw15_odd.calls ?_
  unfold pithlaw15_odd.F
  have hNil : Sat E w (rows cd_uint8 ⟨none, 0⟩ [] :: M) := hS.nil 5 1
  refine ⟨fun v i w => ∃ (k : Nat) (s : Sl), v = .slice s.a ((List.range k).map Z.rawB).length s.c ∧ i = .int .i64 k ∧ k ≤ 66000 ∧ Sat E w (rows cd_uint8 s ((List.range k).map Z.rawB) :: M), fun _ i _ => 66000 - (RowKit.intOf i).toNat, ⟨0, ⟨none, 0⟩, rfl, rfl, Nat.zero_le _, hNil⟩, ?_⟩
  clear hS hNil
  rintro _ _ _ w ⟨k, s, rfl, rfl, hk, hS⟩
  have hlen : ((List.range k).map Z.rawB).length = k := by rw [List.length_map, List.length_range]
  by_cases hlt : k < 66000
  · have e1 : (List.range (k + 1)).map Z.rawB = (List.range k).map Z.rawB ++ [byteOf ((k : Int) * 7 / 8)] := by rw [List.range_succ, List.map_append]; rfl
    generalize (List.range k).map Z.rawB = l at *
    repeat' (first | (refine pN_lss_s ?_ ?_ <;> intro hc <;> try (exfalso; omega)) | refine pIf_t ?_ | refine pN_tob ?_ | (refine pN_b1 hS (by rfl) (by decide) ?_; clear hS; intro s w hS) | (refine pN_app hS (by first | rfl | omega | simpa only [go_sem] using True.intro | (simp only [go_sem]; omega)) (by first | rfl | omega | simpa only [go_sem] using True.intro | (simp only [go_sem]; omega)) (by first | omega | (simp only [go_sem]; omega)) ?_; clear hS; intro s w hS) | refine pN_via (by (intro K; simp (disch := omega) only [go_sem, pN_min, pN_max, w_u32, w_u64, Option.isNone_some, Option.isNone_none]; (try simp only [wrap_u32, wrap_u64]); rfl)) ?_ | fail)
    refine ⟨⟨k + 1, _, by rw [e1], rfl, by omega, ?_⟩, by simp [RowKit.intOf]; omega⟩
    rw [e1]
    exact hS.to
  · obtain rfl : k = 66000 := by omega
    have hR := Z.Raw.of
    generalize (List.range 66000).map Z.rawB = r at *
    have h1 := Z.odd_no hR
    obtain ⟨d2, l2, o2, h2, hl2, ho2, hy2⟩ := Z.odd_yes hR
    have t1 := Z.DS.take_no ⟨by decide, by decide⟩ h1
    have t2 := Z.DS.take_in ⟨by decide, by decide⟩ h2
    have hcl : (Z.DS.sp ((Z.DZ.new ⟨0, 0, 0⟩ 131072).raw r).p ((Z.DZ.new ⟨0, 0, 0⟩ 131072).raw r).x.size (((Z.DZ.new ⟨0, 0, 0⟩ 131072).raw r).x.all.length + (335 : Int).toNat)).clear = .ok (Z.DZ.new ⟨0, 0, 0⟩ 131072) := rfl
    have hrw : ∀ d : Z.DZ, (Z.DS.ok d).raw r = .ok (d.raw r) := fun _ => rfl
    have hxl : (Z.DS.ok ((Z.DZ.new ⟨0, 0, 0⟩ 131072).raw r)).len = r.length := by show (([] : List UInt8) ++ r).length = _; rw [List.nil_append]
    have hx0 : (Z.DS.ok (Z.DZ.new ⟨0, 0, 0⟩ 131072)).len = 0 := rfl
    have hwl : Z.wrongB.length = 35 := rfl
    have hrl : Z.rightB.length = 35 := rfl
    repeat' (first | refine pN_sadd (by first | omega | (simp only [go_sem]; omega)) ?_ | (refine pN_lss_s ?_ ?_ <;> intro hc <;> try (exfalso; omega)) | refine pIf_f ?_ | refine pN_via (by (intro K; simp (disch := omega) only [go_sem, pN_min, pN_max, w_u32, w_u64, Option.isNone_some, Option.isNone_none]; (try simp only [wrap_u32, wrap_u64]); rfl)) ?_ | fail)
    refine pc_lzdec_New (DcNew_in (p := ⟨0, 0, 0⟩) hS Z.p0 131072 (by decide) (by decide) fun d w hS => ?_)
    generalize Z.DZ.new ⟨0, 0, 0⟩ 131072 = D0 at *
    have hrr := hR.len
    repeat' (first | (refine pN_neq_s ?_ ?_ <;> intro hc <;> try (exfalso; first | omega | exact hc rfl | exact hc (by assumption) | exact absurd hc (by assumption))) | refine pIf_f ?_ | refine pGd_go (by rfl) ?_ | refine pN_via (by (intro K; simp (disch := omega) only [go_sem, pN_min, pN_max, w_u32, w_u64, Option.isNone_some, Option.isNone_none]; (try simp only [wrap_u32, wrap_u64]); rfl)) ?_ | fail)
    refine pc_lzdec_Decoder_Raw (DcRaw_ok (l := r) (hS.fd (LDec d)) (by omega) fun w hS => ?_)
    rw [hrw] at hS
    skip
    refine pN_tobs (l := Z.wrongB) hS (by rw [hwl]; decide) ?_
    clear hS
    intro s1 w hS
    skip
    refine pc_lzdec_Decoder_Take (DcTake_ok (l := Z.wrongB) (s0 := s1) hG (hS.fd (LDec d)) (by rw [hwl]; decide) 335 (by omega) fun sa sb w hS => ?_)
    rw [t1] at hS ⊢
    repeat' (first | refine pN_via (by (intro K; simp (disch := omega) only [go_sem, pN_min, pN_max, w_u32, w_u64, Option.isNone_some, Option.isNone_none]; (try simp only [wrap_u32, wrap_u64]); rfl)) ?_ | fail)
    refine pc_lzdec_Decoder_Clear (DcClear_ok (hS.fd (LDec d)) fun w hS => ?_)
    rw [hcl] at hS
    skip
    refine pc_lzdec_Decoder_Raw (DcRaw_ok (l := r) (hS.fd (LDec d)) (by omega) fun w hS => ?_)
    rw [hrw] at hS
    skip
    refine pN_tobs (l := Z.rightB) hS (by rw [hrl]; decide) ?_
    clear hS
    intro s2 w hS
    skip
    refine pc_lzdec_Decoder_Take (DcTake_ok (l := Z.rightB) (s0 := s2) hG (hS.fd (LDec d)) (by rw [hrl]; decide) 335 (by omega) fun sa sb w hS => ?_)
    rw [t2] at hS ⊢
    dsimp only at hS ⊢
    repeat' (first | refine pN_eqs (y := ⟨2, 0, 8, 11950⟩) (z := ⟨2, 0, 8, 11950⟩) ?_ ?_ <;> intro hc <;> try (exfalso; exact hc rfl) | (refine pN_eql_s ?_ ?_ <;> intro hc <;> try (exfalso; first | omega | exact hc rfl | exact hc (by assumption) | exact absurd hc (by assumption))) | refine pGd_go (by rfl) ?_ | refine pN_ld_at ha hS (by rfl) ?_ | refine pN_ixk hS _ (by first | rfl | (exact (Int.toNat_of_nonneg (by omega)).symm)) (by first | rfl | omega | simpa only [go_sem] using True.intro | (simp only [go_sem]; omega)) (by assumption) fun a ha hel => ?_ | refine pN_via (by (intro K; simp (disch := omega) only [go_sem, pN_min, pN_max, w_u32, w_u64, Option.isNone_some, Option.isNone_none]; (try simp only [wrap_u32, wrap_u64]); rfl)) ?_ | fail)
    exact hQ _ hS.to

set_option maxHeartbeats 1000000 in
theorem tail15_ok {p : Z.Pr} {dict n : Int} {s0 s1 s2 s3 : Sl} {l1 l2 l3 : List UInt8} {x3 m : Nat} {L' : List HA} (hm : m = 3) (hG : Glo W) (hp : p.Ok) (d0 : 1 ≤ dict) (d1 : dict ≤ 4294967295) (hS : Sat E w M) [h : Has (old W) M N]
    [hx3 : Fnd (cel x3) M ⟨23, p.cells⟩ L'] [hr0 : Rds cd_sl_uint8 M s0 [(s1, l1), (s2, l2), (s3, l3)]] [hr1 : Rds cd_uint8 M s1 l1] [hr2 : Rds cd_uint8 M s2 l2] [hr3 : Rds cd_uint8 M s3 l3]
    (b1 : l1.length ≤ 140737488355328) (b2 : l2.length ≤ 140737488355328) (b3 : l3.length ≤ 140737488355328)
    (t1 : ((Z.DS.ok (Z.DZ.new p dict)).take l1 n).e = 2) (t2 : ((Z.DS.ok (Z.DZ.new p dict)).take l2 n).e = 2) (t3 : ((Z.DS.ok (Z.DZ.new p dict)).take l3 n).e = 2)
    (hQ : ∀ w, Sat E w M → Q (.bool true) w) :
    ∃ (L24 : Value → World → Prop) (m24 : Value → World → Nat),
      L24 (.int .i64 0) w ∧
      ∀ (_k24 : Env) (i21l24 : Value) (w86 : World), L24 i21l24 w86 →
      pN Tryz.prog (oBi .len #[92] 3 [false] [.slice s0.a m s0.c]) w86 fun x175 w87 =>
      pN Tryz.prog (oBin .lss 3 (.tmp 173) (.tmp 175) i21l24 x175) w87 fun x176 w88 =>
      pIf x176
      (pN Tryz.prog (oLoad 23 (.pointer (some ⟨x3, 0, none⟩))) w88 fun x180 w89 =>
      pN Tryz.prog (oCall 41 [x180, .int .i64 dict]) w89 fun x182 w90 =>
      pN Tryz.prog (oExt x182 0) w90 fun x183 w91 =>
      pN Tryz.prog (oExt x182 1) w91 fun _ w92 =>
      pN Tryz.prog (oBs 30 0 []) w92 fun x187 w93 =>
      pN Tryz.prog (oIdx 92 (.slice s0.a m s0.c) i21l24) w93 fun x190 w94 =>
      pN Tryz.prog (oLoad 30 x190) w94 fun x191 w95 =>
      pN Tryz.prog (oBi .append #[30, 30] 30 [false, false] [x187, x191]) w95 fun x192 w96 =>
      pN Tryz.prog (oCall 39 [x183, x192, .int .i64 n]) w96 fun x194 w97 =>
      pN Tryz.prog (oExt x194 0) w97 fun _ w98 =>
      pN Tryz.prog (oExt x194 1) w98 fun _ w99 =>
      pN Tryz.prog (oExt x194 2) w99 fun x197 w100 =>
      pN Tryz.prog (oBin .neq 38 (.tmp 198) (.const (.int .i64 2)) x197 (.int .i64 2)) w100 fun x199 w101 =>
      pIf x199
      (Q (.bool false) w101)
      (pN Tryz.prog (oBin .add 3 (.tmp 177) (.const (.int .i64 1)) i21l24 (.int .i64 1)) w101 fun x178 w102 =>
      (L24 x178 w102 ∧ m24 x178 w102 < m24 i21l24 w86)))
      (Q (.bool true) w88) := by
  subst hm
  refine ⟨fun v w => ∃ k : Nat, v = .int .i64 k ∧ k ≤ 3 ∧ Sat E w M, fun v _ => 3 - (RowKit.intOf v).toNat, ⟨0, rfl, Nat.zero_le _, hS⟩, ?_⟩
  clear hS
  rintro _ _ w ⟨k, rfl, hk, hS⟩
  have hl3 : ([(s1, l1), (s2, l2), (s3, l3)] : List (Sl × List UInt8)).length = 3 := rfl
  by_cases hlt : k < 3
  rotate_left 1
  · repeat' (first | (refine pN_lss_s ?_ ?_ <;> intro hc <;> try (exfalso; omega)) | refine pIf_f ?_ | refine pN_via (by (intro K; simp (disch := omega) only [go_sem, pN_min, pN_max, w_u32, w_u64, Option.isNone_some, Option.isNone_none]; (try simp only [wrap_u32, wrap_u64]); rfl)) ?_ | fail)
    exact hQ _ hS
  obtain ⟨sj, lj, hx, hrj, hbj, htj⟩ : ∃ (sj : Sl) (lj : List UInt8), ([(s1, l1), (s2, l2), (s3, l3)] : List (Sl × List UInt8))[k]? = some (sj, lj) ∧ Rds cd_uint8 M sj lj ∧ lj.length ≤ 140737488355328 ∧ ((Z.DS.ok (Z.DZ.new p dict)).take lj n).e = 2 := by
    match k, hlt with
    | 0, _ => exact ⟨s1, l1, rfl, hr1, b1, t1⟩
    | 1, _ => exact ⟨s2, l2, rfl, hr2, b2, t2⟩
    | 2, _ => exact ⟨s3, l3, rfl, hr3, b3, t3⟩
    | k + 3, h => omega
  have hlen0 : (Z.DS.ok (Z.DZ.new p dict)).len = 0 := rfl
  repeat' (first | refine pN_la_at (n := 3) hS p.cells rfl rfl ?_ | (refine pN_lss_s ?_ ?_ <;> intro hc <;> try (exfalso; omega)) | refine pIf_t ?_ | refine pN_via (by (intro K; simp (disch := omega) only [go_sem, pN_min, pN_max, w_u32, w_u64, Option.isNone_some, Option.isNone_none]; (try simp only [wrap_u32, wrap_u64]); rfl)) ?_ | fail)
  refine pc_lzdec_New (DcNew_in (p := p) hS hp dict d0 d1 fun d w hS => ?_)
  generalize Z.DZ.new p dict = D0 at *
  repeat' (first | refine pN_ixk hS k rfl hl3.symm hx (fun a ha hel => ?_) | refine pN_ld1 ha hS ?_ | (refine pN_b0 hS ?_; clear hS; intro s w hS) | (refine pN_app hS (by first | rfl | omega | simpa only [go_sem] using True.intro | (simp only [go_sem]; omega)) (by first | rfl | omega | simpa only [go_sem] using True.intro | (simp only [go_sem]; omega)) (by first | omega | (simp only [go_sem]; omega)) ?_; clear hS; intro s w hS) | refine pN_via (by (intro K; simp (disch := omega) only [go_sem, pN_min, pN_max, w_u32, w_u64, Option.isNone_some, Option.isNone_none]; (try simp only [wrap_u32, wrap_u64]); rfl)) ?_ | fail)
  simp only [List.nil_append] at hS ⊢
  refine pc_lzdec_Decoder_Take (DcTake_ok (l := lj) hG (hS.fd (LDec d)) (by omega) n (by omega) fun sa sb w hS => ?_)
  rw [htj]
  repeat' (first | (refine pN_neq_s ?_ ?_ <;> intro hc <;> try (exfalso; first | omega | exact hc rfl | exact hc (by assumption) | exact absurd hc (by assumption))) | refine pIf_f ?_ | refine pN_via (by (intro K; simp (disch := omega) only [go_sem, pN_min, pN_max, w_u32, w_u64, Option.isNone_some, Option.isNone_none]; (try simp only [wrap_u32, wrap_u64]); rfl)) ?_ | fail)
  exact ⟨⟨k + 1, rfl, by omega, hS.to⟩, by simp [RowKit.intOf]; omega⟩
end

set_option maxRecDepth 8000 in
set_option maxHeartbeats 4000000 in
theorem walk_DecOne (W : World) (hG : Glo W) (x0 : T_pithlaw15_Quest) (k0 : Nat) (h0 : x0.ok W k0) :
    Calls Tryz.prog 6 #[.agg x0.enc.toArray] W fun e W' => e = .returned (.bool true) ∧ RowKit.Below W.heap.size W W' := by
  refine walk_end (pithlaw15_DecOne.calls ?_)
  have hQ : ∀ w, Sat W w [old W] → (fun v w => v = Value.bool true ∧ Sat W w [old W]) (.bool true) w := fun w h => ⟨rfl, h⟩
  generalize (fun v w => v = Value.bool true ∧ Sat W w [old W]) = Q at hQ ⊢
  unfold pithlaw15_DecOne.F
  obtain ⟨⟨_, _, hpr⟩, hdi, ⟨_, _, r1, s1, _⟩, hnn⟩ := h0
  have hrb : reachBytes = 140737488351232 := rfl
  have hS := Sat.start W
  obtain ⟨⟨lc, lp, pb⟩, dict, ⟨sb, b⟩, n⟩ := x0
  have hlc := hpr.1
  dsimp only at hlc r1 s1 hdi hnn
  refine pN_bx (z := [.int .i64 lc, .int .i64 lp, .int .i64 pb, .int .i64 dict, .slice sb.a b.length sb.c, .int .i64 n]) hS (by rfl) fun x1 w hS => ?_
  by_cases hok : (⟨lc, lp, pb⟩ : Z.Pr).Ok ∧ 1 ≤ dict ∧ dict ≤ 4294967295
  rotate_left 1
  · repeat' (first | refine pN_la_at (n := 3) hS [.int .i64 lc, .int .i64 lp, .int .i64 pb] rfl rfl ?_ | refine pN_l hS (by first | rfl | assumption) ?_ | (refine pN_sa hS (by rfl) (by rfl) (by rfl) ?_; clear hS; intro w hS; try dsimp only at hS) | (refine pN_nz hS ?_; clear hS; intro a w hS) | refine pN_via (by (intro K; simp (disch := omega) only [go_sem, pN_min, pN_max, w_u32, w_u64, Option.isNone_some, Option.isNone_none]; (try simp only [wrap_u32, wrap_u64]); rfl)) ?_ | fail)
    refine pc_pithlaw15_both (both_no (p := ⟨lc, lp, pb⟩) hS dict hlc hok fun w hS => ?_)
    repeat' (first | (refine pc_pithlaw15_fixed (fixed15_ok hG hS ?_); clear hS; intro w hS) | (refine pc_pithlaw15_odd (odd15_ok hG hS ?_); clear hS; intro w hS) | refine pIf_t ?_ | refine pIf_f ?_ | refine pGd_go (by rfl) ?_ | refine pN_via (by (intro K; simp (disch := omega) only [go_sem, pN_min, pN_max, w_u32, w_u64, Option.isNone_some, Option.isNone_none]; (try simp only [wrap_u32, wrap_u64]); rfl)) ?_ | fail)
    exact hQ _ hS.to
  obtain ⟨hp, d0, d1⟩ := hok
  repeat' (first | refine pN_la_at (n := 3) hS [.int .i64 lc, .int .i64 lp, .int .i64 pb] rfl rfl ?_ | refine pN_l hS (by first | rfl | assumption) ?_ | (refine pN_sa hS (by rfl) (by rfl) (by rfl) ?_; clear hS; intro w hS; try dsimp only at hS) | (refine pN_nz hS ?_; clear hS; intro a w hS) | refine pN_via (by (intro K; simp (disch := omega) only [go_sem, pN_min, pN_max, w_u32, w_u64, Option.isNone_some, Option.isNone_none]; (try simp only [wrap_u32, wrap_u64]); rfl)) ?_ | fail)
  revert a
  intro x3 hS
  refine pc_pithlaw15_both (both_in (p := ⟨lc, lp, pb⟩) hS hp dict d0 d1 fun e d w hS => ?_)
  generalize hP : (⟨lc, lp, pb⟩ : Z.Pr) = P at *
  have hS : Sat W w (LEnc e (Z.EZ.new P dict) :: LDec d (.ok (Z.DZ.new P dict)) :: cel x3 ⟨23, P.cells⟩ :: [old W]) := by
    subst hP
    have hS3 : Sat W w (LEnc e (Z.EZ.new ⟨lc, lp, pb⟩ dict) :: LDec d (.ok (Z.DZ.new ⟨lc, lp, pb⟩ dict)) :: cel x3 ⟨23, [.int .i64 lc, .int .i64 lp, .int .i64 pb]⟩ :: [old W]) := hS.to
    exact hS3
  clear hP hpr hlc
  have hE0 := Z.EZ.Ok.new hp dict
  have hk0 : (Z.EZ.new P dict).s.k = 0 := rfl
  have hn0 : (Z.EZ.new P dict).s = R.S.new := rfl
  have hx0 : (Z.EZ.new P dict).x.all.length = 0 := rfl
  have hdz : Z.DZ.new P dict = (Z.EZ.new P dict).dz := rfl
  rw [hdz] at hS
  have hlen0 : (Z.DS.ok (Z.EZ.new P dict).dz).len = 0 := rfl
  generalize hE : Z.EZ.new P dict = E0 at *
  repeat' (first | (refine pc_pithlaw15_fixed (fixed15_ok hG hS ?_); clear hS; intro w hS) | (refine pc_pithlaw15_odd (odd15_ok hG hS ?_); clear hS; intro w hS) | refine pIf_f ?_ | refine pGd_go (by rfl) ?_ | (refine pN_b0 hS ?_; clear hS; intro s w hS) | (refine pN_app hS (by first | rfl | omega | simpa only [go_sem] using True.intro | (simp only [go_sem]; omega)) (by first | rfl | omega | simpa only [go_sem] using True.intro | (simp only [go_sem]; omega)) (by first | omega | (simp only [go_sem]; omega)) ?_; clear hS; intro s w hS) | refine pN_via (by (intro K; simp (disch := omega) only [go_sem, pN_min, pN_max, w_u32, w_u64, Option.isNone_some, Option.isNone_none]; (try simp only [wrap_u32, wrap_u64]); rfl)) ?_ | fail)
  simp only [List.nil_append] at hS ⊢
  refine pc_lzdec_Decoder_Take (DcTake_ok (l := b) hG (hS.fd (LDec d)) (by omega) n (by omega) fun sl so w hS => ?_)
  by_cases hn : 1 ≤ n ∧ n ≤ 2097152
  rotate_left 1
  · have t0 : (Z.DS.ok E0.dz).take b n = ⟨.ok E0.dz, 7, [], []⟩ := by unfold Z.DS.take; rw [if_neg hn]
    rw [t0] at hS ⊢
    dsimp only at hS ⊢
    repeat' (first | (refine pN_neq_s ?_ ?_ <;> intro hc <;> try (exfalso; first | omega | exact hc rfl | exact hc (by assumption) | exact absurd hc (by assumption))) | refine pIf_t ?_ | (refine pN_mk hS _ (by first | rfl | (exact (Int.toNat_of_nonneg (by omega)).symm)) (by first | omega | (simp only [go_sem]; omega)) ?_; clear hS; intro s w hS) | refine pN_via (by (intro K; simp (disch := omega) only [go_sem, pN_min, pN_max, w_u32, w_u64, Option.isNone_some, Option.isNone_none]; (try simp only [wrap_u32, wrap_u64]); rfl)) ?_ | fail)
    have hS : Sat W _ (rows cd_uint8 _ (List.replicate 6 0) :: _) := hS
    refine pc_lzdec_Decoder_Take (DcTake_ok (l := List.replicate 6 0) hG (hS.fd (LDec d)) (by decide) 1 (by omega) fun sl2 so2 w hS => ?_)
    generalize (Z.DS.ok E0.dz).take (List.replicate 6 0) 1 = r2 at *
    by_cases hn1 : n < 1
    · repeat' (first | (refine pN_lss_s ?_ ?_ <;> intro hc <;> try (exfalso; omega)) | (refine pN_eql_s ?_ ?_ <;> intro hc <;> try (exfalso; first | omega | exact hc rfl | exact hc (by assumption) | exact absurd hc (by assumption))) | refine pGd_go (by rfl) ?_ | refine pGd_no (by rfl) ?_ | refine pN_via (by (intro K; simp (disch := omega) only [go_sem, pN_min, pN_max, w_u32, w_u64, Option.isNone_some, Option.isNone_none]; (try simp only [wrap_u32, wrap_u64]); rfl)) ?_ | fail)
      exact hQ _ hS.to
    · repeat' (first | ((first | refine pN_lss_s ?_ ?_ | refine pN_gtr_s ?_ ?_) <;> intro hc <;> try (exfalso; omega)) | (refine pN_eql_s ?_ ?_ <;> intro hc <;> try (exfalso; first | omega | exact hc rfl | exact hc (by assumption) | exact absurd hc (by assumption))) | refine pGd_go (by rfl) ?_ | refine pGd_no (by rfl) ?_ | refine pN_via (by (intro K; simp (disch := omega) only [go_sem, pN_min, pN_max, w_u32, w_u64, Option.isNone_some, Option.isNone_none]; (try simp only [wrap_u32, wrap_u64]); rfl)) ?_ | fail)
      exact hQ _ hS.to
  cases htk : E0.dz.take b n with
  | none =>
    rw [Z.DS.take_no hn htk] at hS ⊢
    dsimp only at hS ⊢
    have hl5 : (Z.DS.sp E0.dz.p E0.dz.x.size (E0.dz.x.all.length + n.toNat)).len ≤ 2097152 := by
      show E0.x.all.length + n.toNat ≤ _
      omega
    have t2 := Z.DS.take_sp (p := E0.dz.p) (z := E0.dz.x.size) (m := E0.dz.x.all.length + n.toNat) (b := List.replicate 6 0) (n := 1) ⟨by decide, by decide⟩
    generalize Z.DS.sp E0.dz.p E0.dz.x.size (E0.dz.x.all.length + n.toNat) = D2 at *
    repeat' (first | (refine pN_neq_s ?_ ?_ <;> intro hc <;> try (exfalso; first | omega | exact hc rfl | exact hc (by assumption) | exact absurd hc (by assumption))) | refine pIf_t ?_ | (refine pN_mk hS _ (by first | rfl | (exact (Int.toNat_of_nonneg (by omega)).symm)) (by first | omega | (simp only [go_sem]; omega)) ?_; clear hS; intro s w hS) | refine pN_via (by (intro K; simp (disch := omega) only [go_sem, pN_min, pN_max, w_u32, w_u64, Option.isNone_some, Option.isNone_none]; (try simp only [wrap_u32, wrap_u64]); rfl)) ?_ | fail)
    have hS : Sat W _ (rows cd_uint8 _ (List.replicate 6 0) :: _) := hS
    refine pc_lzdec_Decoder_Take (DcTake_ok (l := List.replicate 6 0) hG (hS.fd (LDec d)) (by decide) 1 (by omega) fun sl2 so2 w hS => ?_)
    rw [t2] at hS ⊢
    dsimp only at hS ⊢
    repeat' (first | ((first | refine pN_lss_s ?_ ?_ | refine pN_gtr_s ?_ ?_) <;> intro hc <;> try (exfalso; omega)) | (refine pN_eql_s ?_ ?_ <;> intro hc <;> try (exfalso; first | omega | exact hc rfl | exact hc (by assumption) | exact absurd hc (by assumption))) | refine pGd_go (by rfl) ?_ | refine pN_via (by (intro K; simp (disch := omega) only [go_sem, pN_min, pN_max, w_u32, w_u64, Option.isNone_some, Option.isNone_none]; (try simp only [wrap_u32, wrap_u64]); rfl)) ?_ | fail)
    exact hQ _ hS.to
  | some r =>
    rw [Z.DS.take_in hn htk] at hS ⊢
    obtain ⟨ys, hv, hus, rfl, hol, hby⟩ := Z.take_twin hE0 hn0 (by omega) htk
    dsimp only at hS ⊢
    have hps := Z.sizes_pos ys hv
    have hol2 := Z.EZ.outs_len ys hv
    have hkE := Z.EZ.Ok.putV ys hE0 hv
    have hbl : b.length = (E0.putV ys).s.k + 5 := by rw [← hby]; exact R.digits_length _ _
    have g1 : E0.dz.take (b.take (b.length - 1)) n = none := by
      cases hg : E0.dz.take (b.take (b.length - 1)) n with
      | none => rfl
      | some r =>
        have := Z.take_less (by omega) hg
        rw [htk] at this
        cases this
    have g2 : E0.dz.take (b ++ [0]) n = none := by
      refine Z.take_less (m := b.length) (by rw [List.length_append, List.length_cons, List.length_nil]; omega) (r := ((E0.putV ys).dz, ys, E0.outs ys)) ?_
      rw [List.take_left]
      exact htk
    obtain ⟨er, her⟩ := Z.start_1 (b.drop 1)
    have g3 : E0.dz.take ([1] ++ b.drop 1) n = none := Z.take_start her
    obtain ⟨l1, hl1, hl1e⟩ : ∃ l1 : List UInt8, l1.length = b.length - 1 ∧ l1 = b.take (b.length - 1) := ⟨_, by rw [List.length_take]; omega, rfl⟩
    have rlo : RdP cd_uint8 (old W) (sb.sub 0 cd_uint8.size) l1 := by
      have := RdP.sub r1 0 (b.length - 1) (Nat.zero_le _) (by omega)
      rw [List.drop_zero, Nat.sub_zero, ← hl1e] at this
      exact this
    have rhi : RdP cd_uint8 (old W) (sb.sub 1 cd_uint8.size) (b.drop 1) := by
      have := RdP.sub r1 1 b.length (by omega) (Nat.le_refl _)
      rw [List.take_of_length_le (by rw [List.length_drop]; omega)] at this
      exact this
    have u1 : ((Z.DS.ok E0.dz).take l1 n).e = 2 := by rw [hl1e, Z.DS.take_no hn g1]
    have u2 : ((Z.DS.ok E0.dz).take (b ++ [0]) n).e = 2 := by rw [Z.DS.take_no hn g2]
    have u3 : ((Z.DS.ok E0.dz).take ([1] ++ b.drop 1) n).e = 2 := by rw [Z.DS.take_no hn g3]
    rw [← hdz] at u1 u2 u3
    clear g1 g2 g3 her hl1e
    repeat' (first | (refine pN_neq_s ?_ ?_ <;> intro hc <;> try (exfalso; first | omega | exact hc rfl | exact hc (by assumption) | exact absurd hc (by assumption))) | refine pIf_f ?_ | refine pN_via (by (intro K; simp (disch := omega) only [go_sem, pN_min, pN_max, w_u32, w_u64, Option.isNone_some, Option.isNone_none]; (try simp only [wrap_u32, wrap_u64]); rfl)) ?_ | fail)
    have h4 : Sat W _ [LEnc e E0, rows cd_api_Symbol sl ys, rows cd_uint8 so (E0.outs ys), cel x3 ⟨23, P.cells⟩, old W] := hS.to
    refine ⟨fun v w => ∃ k : Nat, v = .int .i64 k ∧ k ≤ ys.length ∧ Sat W w [LEnc e (E0.putV (ys.take k)), rows cd_api_Symbol sl ys, rows cd_uint8 so (E0.outs ys), cel x3 ⟨23, P.cells⟩, old W], fun v _ => ys.length - (RowKit.intOf v).toNat, ⟨0, rfl, Nat.zero_le _, h4⟩, ?_⟩
    clear hS h4
    rintro _ _ w ⟨k, rfl, hkl, hS⟩
    have hkv := Z.EZ.valid_take hv k
    have hok := Z.EZ.Ok.putV _ hE0 hkv
    have hox := Z.EZ.outs_len _ hkv
    have hos := Z.sizes_pos _ hkv
    have hxl : (E0.putV (ys.take k)).x.all.length = (E0.outs (ys.take k)).length := by rw [Z.EZ.putV_x]; show (E0.x.all ++ _).length = _; rw [List.length_append, hx0, Nat.zero_add]
    rw [List.length_take, Nat.min_eq_left hkl] at hos hok
    by_cases hlt : k < ys.length
    · obtain ⟨y, hy⟩ : ∃ y, ys[k]? = some y := ⟨ys[k]'hlt, by simp⟩
      have hm := (Z.EZ.valid_at hv hy).2
      have hsn : ys.take (k + 1) = ys.take k ++ [y] := by rw [List.take_add_one, hy]; rfl
      have hp1 : E0.putV (ys.take (k + 1)) = (E0.putV (ys.take k)).put y := by rw [hsn, Z.EZ.putV_snoc, Z.EZ.put, if_pos hm]
      generalize E0.putV (ys.take k) = Z1 at *
      repeat' (first | refine pN_ixk hS k rfl rfl hy (fun a ha hel => ?_) | (refine pN_lss_s ?_ ?_ <;> intro hc <;> try (exfalso; omega)) | refine pIf_t ?_ | refine pN_ld_at ha hS (by rfl) ?_ | refine pN_via (by (intro K; simp (disch := omega) only [go_sem, pN_min, pN_max, w_u32, w_u64, Option.isNone_some, Option.isNone_none]; (try simp only [wrap_u32, wrap_u64]); rfl)) ?_ | fail)
      refine pc_lzenc_Encoder_Put (LPut_ok (y := y) hG (hS.fd (LEnc e)) (by omega) (by omega) fun w hS => ?_)
      rw [hm]
      repeat' (first | (refine pN_neq_s ?_ ?_ <;> intro hc <;> try (exfalso; first | omega | exact hc rfl | exact hc (by assumption) | exact absurd hc (by assumption))) | refine pIf_f ?_ | refine pN_via (by (intro K; simp (disch := omega) only [go_sem, pN_min, pN_max, w_u32, w_u64, Option.isNone_some, Option.isNone_none]; (try simp only [wrap_u32, wrap_u64]); rfl)) ?_ | fail)
      exact ⟨⟨k + 1, rfl, by omega, by rw [hp1]; exact hS.to⟩, by simp [RowKit.intOf]; omega⟩
    · obtain rfl : k = ys.length := by omega
      rw [List.take_length] at *
      repeat' (first | (refine pN_lss_s ?_ ?_ <;> intro hc <;> try (exfalso; omega)) | refine pIf_f ?_ | refine pN_via (by (intro K; simp (disch := omega) only [go_sem, pN_min, pN_max, w_u32, w_u64, Option.isNone_some, Option.isNone_none]; (try simp only [wrap_u32, wrap_u64]); rfl)) ?_ | fail)
      refine pc_symbol_Expand (Expand_in (p := P) hG hE hp d0 d1 hv hS (by omega) fun so2 w hS => ?_)
      have hbk : (E0.putV ys).s.k + 18 ≤ 140737488355328 := by omega
      clear hkv hok hox hos hxl hkE hv hps
      generalize E0.putV ys = Z1 at *
      generalize E0.outs ys = os at *
      have hcut : ∀ {w : World} {M : List HA} {Q : Value → World → Prop}, Sat W w (LEnc e Z1 :: M) → (∀ s w, Sat W w (rows cd_uint8 s b :: LEnc e Z1.cut :: M) → Q (.slice s.a b.length s.c) w) → Calls Tryz.prog 21 #[pz e] w (retP Q) := by
        intro w M Q hS hQ
        refine LCut_ok hS hbk fun s w hS => ?_
        rw [hby] at hS ⊢
        exact hQ s w hS
      have hbn : (b.length : Int) - 1 = (l1.length : Int) := by omega
      have u4 : ((Z.DS.ok (Z.DZ.new P dict)).take (([] ++ b) ++ [0]) n).e = 2 := by rw [List.nil_append]; exact u2
      have m1 : l1.length ≤ 140737488355328 := by omega
      have m2 : (([] ++ b) ++ [0] : List UInt8).length ≤ 140737488355328 := by rw [List.nil_append, List.length_append, List.length_cons, List.length_nil]; omega
      have m3 : ([1] ++ b.drop 1 : List UInt8).length ≤ 140737488355328 := by rw [List.length_append, List.length_drop, List.length_cons, List.length_nil]; omega
      repeat' (first | (refine pc_lzenc_Encoder_Cut (hcut (hS.fd (LEnc e)) ?_); clear hS; intro sc w hS) | (refine pA_slhw (C := cd_uint8) (s := sb) (l := b) hS l1.length hbn rfl (by omega) ?_; intro hzz; clear hzz) | (refine pA_sl1w (C := cd_uint8) (s := sb) (l := b) hS 1 rfl rfl (by omega) ?_; intro hzz; clear hzz) | (refine pN_bl (C := cd_sl_uint8) [_, _, _] [(sb.sub 0 cd_uint8.size, l1), (_, _), (_, _)] rfl rfl rfl (Nat.le_of_ble_eq_true rfl) hS (Nat.le_of_ble_eq_true rfl) ?_; clear hS; intro s172 w hS; dsimp only [List.length_cons, List.length_nil, Nat.zero_add, Nat.reduceAdd]) | exact tail15_ok (p := P) (s0 := s172) (x3 := x3) (Q := Q) rfl hG hp d0 d1 hS m1 m2 m3 u1 u4 u3 (fun w hS => hQ w hS.to) | exact trivial | exact fun _ => run_st hS (by first | rfl | omega) | refine And.intro ?_ ?_ | (refine pA_lss_s ?_ ?_ <;> intro hc <;> try (exfalso; omega)) | ((first | refine pA_neq_s ?_ ?_ | refine pA_neq_ss ?_ ?_) <;> intro hc <;> try (exfalso; first | omega | exact hc rfl | exact hc (by assumption) | exact absurd hc (by assumption))) | refine pIf_f ?_ | refine gA_go (by rfl) ?_ | refine pGd_go (by rfl) ?_ | (refine pDr_go hS ?_; clear hS; intro w hS) | (refine pN_b1 hS (by rfl) (by decide) ?_; clear hS; intro s w hS) | (refine pN_b0 hS ?_; clear hS; intro s w hS) | (refine pN_app hS (by first | rfl | omega | simpa only [go_sem] using True.intro | (simp only [go_sem]; omega)) (by first | rfl | omega | simpa only [go_sem] using True.intro | (simp only [go_sem]; omega)) (by first | omega | (simp only [go_sem]; omega)) ?_; clear hS; intro s w hS) | refine pL_st hS (by first | rfl | omega | simpa only [go_sem] using True.intro | (simp only [go_sem]; omega)) ?_ | refine pN_via (by (intro K; simp (disch := omega) only [go_sem, pN_min, pN_max, w_u32, w_u64, Option.isNone_some, Option.isNone_none]; (try simp only [wrap_u32, wrap_u64]); rfl)) ?_ | refine pA_via (by (intro K; simp (disch := omega) only [go_sem, pN_min, pN_max, w_u32, w_u64, Option.isNone_some, Option.isNone_none]; (try simp only [wrap_u32, wrap_u64]); rfl)) ?_ | fail)

end Go.Proofs.YtbgnnjfpiblkmaaGreatDoor
