/-
  Texts of one proof, one behind the other: LzSymbol, LzE, LzDec, LzTake, Puts, Law15, Expand, DecBack.
-/
import Derived.SevenTiedAt
import Derived.Laws.StructEq
import Derived.Test.YtbgnnjfpiblkmaaGreatDoorMg7
namespace Go.Proofs.YtbgnnjfpiblkmaaGreatDoor
open Go
set_option linter.unusedSimpArgs false
set_option linter.unnecessarySimpa false
set_option linter.unusedSectionVars false
set_option linter.unusedVariables false
attribute [local irreducible] oMv oV oU oCall oCallV oBi oBin oUn oLoad oStore oNil oFld oField oIdx oIndex oPick oAlloc oBox oBuild oBs oConv oMk oSl oExt oFn oIface oMap oLook oMapUp oRange oNext oEntry oInv oAssert oPanic oRes pN pA pL pDr pIf gA pGd

section
variable {E w W : World} {M N : List HA} {Q : Value → World → Prop} {p : Z.Pr} {s : Z.St} {x : Z.W} {B : List UInt8} {r dec dd t wd : Nat} {q : Nat → Nat} {z : Option Z.RS} {f : Bool}

set_option maxHeartbeats 4000000 in
theorem rsymbol_ok (hp : p.Ok) (hs : s.Right) (hB : B.length ≤ 225000000000000) (hx : x.all.length ≤ 4611686018427387904)
    (hS : Sat E w (cel r ⟨233, rdCells dec dd z.isNone⟩ :: Rsd p B dd q z :: cel dec ⟨171, dcCells t wd f⟩ :: cel t ⟨141, tbCells p s q⟩ :: Win wd x :: M))
    (hQ : ∀ y v w, Z.Got (Z.symRd p s x) z y v → Sat E w (cel r ⟨233, rdCells dec dd y.isNone⟩ :: Rsd p B dd q y :: cel dec ⟨171, dcCells t wd f⟩ :: cel t ⟨141, tbCells p s q⟩ :: Win wd x :: M) → Q (.agg #[.int .i64 v.Kind, bv v.Byte, .int .i64 v.Len, .int .i64 v.Dist]) w) :
    Calls Tryz.prog 134 #[pz r] w (retP Q) := by
  refine lzdec_reader_symbol.calls ?_
  unfold lzdec_reader_symbol.F
  have hpl := place_bd hp x.all.length
  have hn := hs.num
  have t0 : Z.tabLen p 0 = 192 := rfl
  have t1 : Z.tabLen p 1 = 192 := rfl
  have t2 : Z.tabLen p 2 = 12 := rfl
  have t3 : Z.tabLen p 3 = 12 := rfl
  have t4 : Z.tabLen p 4 = 12 := rfl
  have t5 : Z.tabLen p 5 = 12 := rfl
  repeat' (first | (refine pc_window_Window_Pos (Pos_ok (hS.fd (Win wd)) ?_); clear hS; intro w hS) | (refine pc_model_Tables_At (MAt_ok (hS.fd (cel t)) hp hs _ (by omega) (by omega) ?_); clear hS; intro w hS) | refine ⟨⟨run_l hS (by rfl), run_l hS (by rfl), run_l hS (by rfl), run_l hS (by rfl), run_l hS (by rfl), trivial⟩, ?_⟩ | refine pN_l hS (by first | rfl | assumption) ?_ | refine pL_l hS (by first | rfl | assumption) ?_ | (refine pDr_go hS ?_; clear hS; intro w hS) | (refine pN_nz hS ?_; clear hS; intro a w hS) | refine ⟨⟨(by first | exact run_l hS (by first | rfl | assumption) | exact run_st hS (by first | rfl | omega) | exact run_ld1 ha hS | exact fun _ => run_l hS (by rfl) | exact fun _ => run_st hS (by first | rfl | omega) | exact fun _ => run_ld1 ha hS | exact fun h => Bool.noConfusion h), (by first | exact run_l hS (by first | rfl | assumption) | exact run_st hS (by first | rfl | omega) | exact run_ld1 ha hS | exact fun _ => run_l hS (by rfl) | exact fun _ => run_st hS (by first | rfl | omega) | exact fun _ => run_ld1 ha hS | exact fun h => Bool.noConfusion h), (by first | exact run_l hS (by first | rfl | assumption) | exact run_st hS (by first | rfl | omega) | exact run_ld1 ha hS | exact fun _ => run_l hS (by rfl) | exact fun _ => run_st hS (by first | rfl | omega) | exact fun _ => run_ld1 ha hS | exact fun h => Bool.noConfusion h), trivial⟩, ?_⟩ | refine pN_via (by (intro K; simp (disch := omega) only [go_sem, pN_min, pN_max, w_u32, w_u64, Option.isNone_some, Option.isNone_none]; (try simp only [wrap_u32, wrap_u64]); rfl)) ?_ | refine pA_via (by (intro K; simp (disch := omega) only [go_sem, pN_min, pN_max, w_u32, w_u64, Option.isNone_some, Option.isNone_none]; (try simp only [wrap_u32, wrap_u64]); rfl)) ?_ | fail)
  refine pc_lzdec_reader_bit (rbit_ok (hS.fd2 (cel r) (Rsd p B dd q)) hB 0 (by decide) _ (by omega) (by omega) fun z1 b1 w g1 hb1 hS => ?_)
  rcases hb1 with rfl | rfl
  · repeat' (first | (refine pN_eql_s ?_ ?_ <;> intro hc <;> try (exfalso; first | omega | exact hc rfl | exact hc (by assumption) | exact absurd hc (by assumption))) | refine pIf_t ?_ | fail)
    refine pc_lzdec_reader_literal (rliteral_ok hp hs hB hx (hS.fd5 (cel r) (Rsd p B dd q) (cel dec) (cel t) (Win wd)) fun z2 v w g2 v0 v1 hS => ?_)
    repeat' (first | refine pN_tob ?_ | refine pL_ra hS (by rfl) ?_ | (refine pN_sa hS (by rfl) (by rfl) (by rfl) ?_; clear hS; intro w hS; try dsimp only at hS) | refine pN_via (by (intro K; simp (disch := omega) only [go_sem, pN_min, pN_max, w_u32, w_u64, Option.isNone_some, Option.isNone_none]; (try simp only [wrap_u32, wrap_u64]); rfl)) ?_ | fail)
    exact hQ z2 ⟨1, byteOf v, 0, 0⟩ _ (Z.Got.bit g1 (by rw [if_pos rfl]; exact g2.map)) hS.to
  repeat' (first | (refine pN_eql_s ?_ ?_ <;> intro hc <;> try (exfalso; first | omega | exact hc rfl | exact hc (by assumption) | exact absurd hc (by assumption))) | refine pIf_f ?_ | refine pN_l hS (by first | rfl | assumption) ?_ | refine pN_via (by (intro K; simp (disch := omega) only [go_sem, pN_min, pN_max, w_u32, w_u64, Option.isNone_some, Option.isNone_none]; (try simp only [wrap_u32, wrap_u64]); rfl)) ?_ | fail)
  refine pc_lzdec_reader_bit (rbit_ok (hS.fd2 (cel r) (Rsd p B dd q)) hB 2 (by decide) _ (by omega) (by omega) fun z2 b2 w g2 hb2 hS => ?_)
  rcases hb2 with rfl | rfl
  · repeat' (first | refine pN_la_at (n := 4) hS [pz (q 7), pz (q 8), pz (q 9), pz (q 10)] rfl rfl ?_ | (refine pN_eql_s ?_ ?_ <;> intro hc <;> try (exfalso; first | omega | exact hc rfl | exact hc (by assumption) | exact absurd hc (by assumption))) | refine pIf_t ?_ | refine pN_l hS (by first | rfl | assumption) ?_ | refine pN_via (by (intro K; simp (disch := omega) only [go_sem, pN_min, pN_max, w_u32, w_u64, Option.isNone_some, Option.isNone_none]; (try simp only [wrap_u32, wrap_u64]); rfl)) ?_ | fail)
    refine pc_lzdec_reader_length (rlength_ok 7 (.inl rfl) hp hB hx (hS.fd5 (cel r) (Rsd p B dd q) (cel dec) (cel t) (Win wd)) fun z3 n w g3 hn3 hS => ?_)
    skip
    refine pc_lzdec_reader_distance (rdistance_ok hn3 hp hB (hS.fd5 (cel r) (Rsd p B dd q) (cel dec) (cel t) (Win wd)) fun z4 d w g4 d0 d1 hS => ?_)
    repeat' (first | refine pL_ra hS (by rfl) ?_ | (refine pN_sa hS (by rfl) (by rfl) (by rfl) ?_; clear hS; intro w hS; try dsimp only at hS) | refine pN_via (by (intro K; simp (disch := omega) only [go_sem, pN_min, pN_max, w_u32, w_u64, Option.isNone_some, Option.isNone_none]; (try simp only [wrap_u32, wrap_u64]); rfl)) ?_ | fail)
    refine hQ z4 ⟨2, 0, n, d⟩ _ (Z.Got.bit g1 ?_) hS.to
    rw [if_neg (by decide)]
    refine Z.Got.bit g2 ?_
    rw [if_pos rfl]
    exact Z.Got.bind g3 g4.map
  repeat' (first | (refine pN_eql_s ?_ ?_ <;> intro hc <;> try (exfalso; first | omega | exact hc rfl | exact hc (by assumption) | exact absurd hc (by assumption))) | refine pIf_f ?_ | refine pN_l hS (by first | rfl | assumption) ?_ | refine pN_via (by (intro K; simp (disch := omega) only [go_sem, pN_min, pN_max, w_u32, w_u64, Option.isNone_some, Option.isNone_none]; (try simp only [wrap_u32, wrap_u64]); rfl)) ?_ | fail)
  refine pc_lzdec_reader_bit (rbit_ok (hS.fd2 (cel r) (Rsd p B dd q)) hB 3 (by decide) _ (by omega) (by omega) fun z3 b3 w g3 hb3 hS => ?_)
  rcases hb3 with rfl | rfl
  · repeat' (first | (refine pN_eql_s ?_ ?_ <;> intro hc <;> try (exfalso; first | omega | exact hc rfl | exact hc (by assumption) | exact absurd hc (by assumption))) | refine pIf_t ?_ | refine pN_l hS (by first | rfl | assumption) ?_ | refine pN_via (by (intro K; simp (disch := omega) only [go_sem, pN_min, pN_max, w_u32, w_u64, Option.isNone_some, Option.isNone_none]; (try simp only [wrap_u32, wrap_u64]); rfl)) ?_ | fail)
    refine pc_lzdec_reader_bit (rbit_ok (hS.fd2 (cel r) (Rsd p B dd q)) hB 1 (by decide) _ (by omega) (by omega) fun z4 b4 w g4 hb4 hS => ?_)
    rcases hb4 with rfl | rfl
    · repeat' (first | (refine pN_eql_s ?_ ?_ <;> intro hc <;> try (exfalso; first | omega | exact hc rfl | exact hc (by assumption) | exact absurd hc (by assumption))) | refine pIf_t ?_ | refine pL_ra hS (by rfl) ?_ | (refine pN_sa hS (by rfl) (by rfl) (by rfl) ?_; clear hS; intro w hS; try dsimp only at hS) | refine pN_via (by (intro K; simp (disch := omega) only [go_sem, pN_min, pN_max, w_u32, w_u64, Option.isNone_some, Option.isNone_none]; (try simp only [wrap_u32, wrap_u64]); rfl)) ?_ | fail)
      refine hQ z4 ⟨4, 0, 0, 0⟩ _ (Z.Got.bit g1 ?_) hS.to
      rw [if_neg (by decide)]
      refine Z.Got.bit g2 ?_
      rw [if_neg (by decide)]
      refine Z.Got.bit g3 ?_
      rw [if_pos rfl]
      refine Z.Got.bit g4 ?_
      rw [if_pos rfl]
      exact Z.Got.ret _ _
    · repeat' (first | refine pN_la_at (n := 4) hS [pz (q 11), pz (q 12), pz (q 13), pz (q 14)] rfl rfl ?_ | (refine pN_eql_s ?_ ?_ <;> intro hc <;> try (exfalso; first | omega | exact hc rfl | exact hc (by assumption) | exact absurd hc (by assumption))) | refine pIf_f ?_ | refine pN_l hS (by first | rfl | assumption) ?_ | refine pN_via (by (intro K; simp (disch := omega) only [go_sem, pN_min, pN_max, w_u32, w_u64, Option.isNone_some, Option.isNone_none]; (try simp only [wrap_u32, wrap_u64]); rfl)) ?_ | fail)
      refine pc_lzdec_reader_length (rlength_ok 11 (.inr rfl) hp hB hx (hS.fd5 (cel r) (Rsd p B dd q) (cel dec) (cel t) (Win wd)) fun z5 n w g5 hn5 hS => ?_)
      repeat' (first | refine pL_ra hS (by rfl) ?_ | (refine pN_sa hS (by rfl) (by rfl) (by rfl) ?_; clear hS; intro w hS; try dsimp only at hS) | refine pN_via (by (intro K; simp (disch := omega) only [go_sem, pN_min, pN_max, w_u32, w_u64, Option.isNone_some, Option.isNone_none]; (try simp only [wrap_u32, wrap_u64]); rfl)) ?_ | fail)
      refine hQ z5 ⟨3, 0, n, 0⟩ _ (Z.Got.bit g1 ?_) hS.to
      rw [if_neg (by decide)]
      refine Z.Got.bit g2 ?_
      rw [if_neg (by decide)]
      refine Z.Got.bit g3 ?_
      rw [if_pos rfl]
      refine Z.Got.bit g4 ?_
      rw [if_neg (by decide)]
      exact g5.map
  repeat' (first | (refine pN_eql_s ?_ ?_ <;> intro hc <;> try (exfalso; first | omega | exact hc rfl | exact hc (by assumption) | exact absurd hc (by assumption))) | refine pIf_f ?_ | fail)
  refine ⟨fun i w => ∃ (d : Int) (z4 : Option Z.RS), i = .int .i64 d ∧ (∀ y v, Z.Got (Z.repRd p x.all.length d) z4 y v → Z.Got (Z.symRd p s x) z y v) ∧ Sat E w (cel a ⟨48, [.int .i64 0, bv 0, .int .i64 0, .int .i64 0]⟩ :: cel r ⟨233, rdCells dec dd z4.isNone⟩ :: Rsd p B dd q z4 :: cel dec ⟨171, dcCells t wd f⟩ :: cel t ⟨141, tbCells p s q⟩ :: Win wd x :: M), ?_, ?_⟩
  · repeat' (first | refine pN_l hS (by first | rfl | assumption) ?_ | refine pN_via (by (intro K; simp (disch := omega) only [go_sem, pN_min, pN_max, w_u32, w_u64, Option.isNone_some, Option.isNone_none]; (try simp only [wrap_u32, wrap_u64]); rfl)) ?_ | fail)
    refine pc_lzdec_reader_bit (rbit_ok (hS.fd2 (cel r) (Rsd p B dd q)) hB 4 (by decide) _ (by omega) (by omega) fun z4 b4 w g4 hb4 hS => ?_)
    rcases hb4 with rfl | rfl
    · repeat' (first | (refine pN_eql_s ?_ ?_ <;> intro hc <;> try (exfalso; first | omega | exact hc rfl | exact hc (by assumption) | exact absurd hc (by assumption))) | refine pIf_f ?_ | fail)
      refine ⟨1, z4, rfl, fun y v h => Z.Got.bit g1 ?_, hS.to⟩
      rw [if_neg (by decide)]
      refine Z.Got.bit g2 ?_
      rw [if_neg (by decide)]
      refine Z.Got.bit g3 ?_
      rw [if_neg (by decide)]
      refine Z.Got.bit g4 ?_
      rw [if_pos rfl]
      exact h
    · repeat' (first | (refine pN_eql_s ?_ ?_ <;> intro hc <;> try (exfalso; first | omega | exact hc rfl | exact hc (by assumption) | exact absurd hc (by assumption))) | refine pIf_t ?_ | refine pN_l hS (by first | rfl | assumption) ?_ | refine pN_via (by (intro K; simp (disch := omega) only [go_sem, pN_min, pN_max, w_u32, w_u64, Option.isNone_some, Option.isNone_none]; (try simp only [wrap_u32, wrap_u64]); rfl)) ?_ | fail)
      refine pc_lzdec_reader_bit (rbit_ok (hS.fd2 (cel r) (Rsd p B dd q)) hB 5 (by decide) _ (by omega) (by omega) fun z5 b5 w g5 hb5 hS => ?_)
      repeat' (first | refine pN_via (by (intro K; simp (disch := omega) only [go_sem, pN_min, pN_max, w_u32, w_u64, Option.isNone_some, Option.isNone_none]; (try simp only [wrap_u32, wrap_u64]); rfl)) ?_ | fail)
      refine ⟨2 + b5, z5, rfl, fun y v h => Z.Got.bit g1 ?_, hS.to⟩
      rw [if_neg (by decide)]
      refine Z.Got.bit g2 ?_
      rw [if_neg (by decide)]
      refine Z.Got.bit g3 ?_
      rw [if_neg (by decide)]
      refine Z.Got.bit g4 ?_
      rw [if_neg (by decide)]
      exact Z.Got.bit g5 h
  · clear hS
    rintro _ _ w ⟨d, z4, rfl, hgo, hS⟩
    repeat' (first | refine pN_la_at (n := 4) hS [pz (q 11), pz (q 12), pz (q 13), pz (q 14)] rfl rfl ?_ | refine pN_l hS (by first | rfl | assumption) ?_ | refine pN_via (by (intro K; simp (disch := omega) only [go_sem, pN_min, pN_max, w_u32, w_u64, Option.isNone_some, Option.isNone_none]; (try simp only [wrap_u32, wrap_u64]); rfl)) ?_ | fail)
    refine pc_lzdec_reader_length (rlength_ok 11 (.inr rfl) hp hB hx (hS.fd5 (cel r) (Rsd p B dd q) (cel dec) (cel t) (Win wd)) fun z5 n w g5 hn5 hS => ?_)
    repeat' (first | refine pL_ra hS (by rfl) ?_ | (refine pN_sa hS (by rfl) (by rfl) (by rfl) ?_; clear hS; intro w hS; try dsimp only at hS) | refine pN_via (by (intro K; simp (disch := omega) only [go_sem, pN_min, pN_max, w_u32, w_u64, Option.isNone_some, Option.isNone_none]; (try simp only [wrap_u32, wrap_u64]); rfl)) ?_ | fail)
    exact hQ z5 ⟨3, 0, n, d⟩ _ (hgo _ _ g5.map) hS.to
end

end Go.Proofs.YtbgnnjfpiblkmaaGreatDoor

namespace Go.Proofs.YtbgnnjfpiblkmaaGreatDoor
open Go
set_option linter.unusedSimpArgs false
set_option linter.unnecessarySimpa false
set_option linter.unusedSectionVars false
set_option linter.unusedVariables false

theorem pN_ifc {en : Nat} {w : World} {K : Value → World → Prop} (hk : K (codingV en) w) : pN Tryz.prog (oIface 136 (.agg #[pz en])) w K := by
  have : (oIface 136 (.agg #[pz en])).run Tryz.prog w = .ok (.value (codingV en)) w := by kernel_rfl
  rw [pN_def, this, rN_value]; exact hk
/-- An encoder. -/
def LEnc (b : Nat) (e : Z.EZ) : HA := fun h => ∃ k : Nat × Nat × Nat × (Nat → Nat), e.Ok ∧ Sats [cel b ⟨128, encCells k.1 k.2.1 k.2.2.1⟩, cel k.1 ⟨141, tbCells e.p e.st k.2.2.2⟩, Win k.2.1 e.x, Enc k.2.2.1 e.s, tabs k.2.2.2 e.T] h
section
variable {E w : World} {M : List HA} {b t wd en : Nat} {q : Nat → Nat} {e : Z.EZ}
theorem LEnc.opn (hS : Sat E w (LEnc b e :: M)) : e.Ok ∧ ∃ t wd en q, Sat E w (cel b ⟨128, encCells t wd en⟩ :: cel t ⟨141, tbCells e.p e.st q⟩ :: Win wd e.x :: Enc en e.s :: tabs q e.T :: M) := by
  obtain ⟨k, hS⟩ := hS.ex
  obtain ⟨h1, ⟨hA, _⟩, _⟩ := hS.head
  exact ⟨hA, k.1, k.2.1, k.2.2.1, k.2.2.2, hS.open_ (M := [_, _, _, _, _]) fun _ h => h.2⟩
theorem LEnc.shut (hS : Sat E w (cel b ⟨128, encCells t wd en⟩ :: cel t ⟨141, tbCells e.p e.st q⟩ :: Win wd e.x :: Enc en e.s :: tabs q e.T :: M)) (he : e.Ok) : Sat E w (LEnc b e :: M) :=
  Sat.shut (M := [_, _, _, _, _]) hS fun _ h => ⟨(t, wd, en, q), he, h⟩
theorem cel_conv {E w : World} {M : List HA} {t : Nat} {o o' : Ob} (h : o = o') (hS : Sat E w (cel t o :: M)) : Sat E w (cel t o' :: M) := h ▸ hS
end
attribute [local irreducible] oMv oV oU oCall oCallV oBi oBin oUn oLoad oStore oNil oFld oField oIdx oIndex oPick oAlloc oBox oBuild oBs oConv oMk oSl oExt oFn oIface oMap oLook oMapUp oRange oNext oEntry oInv oAssert oPanic oRes pN pA pL pDr pIf gA pGd

section
variable {E w W : World} {M N : List HA} {Q : Value → World → Prop} {b : Nat} {e : Z.EZ} {y : Z.Y}

theorem LNew_in {p : Z.Pr} (hS : Sat E w M) (hp : p.Ok) (d : Int) (h0 : 1 ≤ d) (h1 : d ≤ 4294967295) (hQ : ∀ b w, Sat E w (LEnc b (Z.EZ.new p d) :: M) → Q (.tuple #[pz b, .int .i64 0]) w) :
    Calls Tryz.prog 13 #[.agg #[.int .i64 p.lc, .int .i64 p.lp, .int .i64 p.pb], .int .i64 d] w (retP Q) := by
  refine lzenc_New.calls ?_
  unfold lzenc_New.F
  repeat' (first | (refine pc_state_PropsByte (PropsByte_in p hp hS ?_); clear hS; intro w hS) | (refine pc_window_New (WNew_in hS d h0 h1 ?_); clear hS; intro wd w hS) | (refine pc_model_New (MNew_ok hp hS ?_); clear hS; intro t q w hS) | (refine pc_rcenc_New (NewE_ok hS ?_); clear hS; intro en w hS) | (refine pN_neq_s ?_ ?_ <;> intro hc <;> try (exfalso; first | omega | exact hc rfl | exact hc (by assumption) | exact absurd hc (by assumption))) | refine pIf_f ?_ | refine pN_la hS (by rfl) ?_ | (refine pN_bx hS (by rfl) ?_; clear hS; intro a w hS) | refine pN_via (by (intro K; simp (disch := omega) only [go_sem, pN_min, pN_max, w_u32, w_u64, Option.isNone_some, Option.isNone_none]; (try simp only [wrap_u32, wrap_u64]); rfl)) ?_ | fail)
  exact hQ _ _ (LEnc.shut (e := ⟨p, Z.St.new, Z.T0 p, ⟨d, []⟩, R.S.new⟩) (t := t) (wd := wd) (en := en) (q := q) hS.to (Z.EZ.Ok.new hp d))
theorem LNew_no {p : Z.Pr} (hS : Sat E w M) (d : Int) (hpb : -9223372036854775808 ≤ p.lc ∧ p.lc < 9223372036854775808) (h : ¬ (p.Ok ∧ 1 ≤ d ∧ d ≤ 4294967295)) (hQ : ∀ w, Sat E w M → Q (.tuple #[.pointer none, .int .i64 (if p.Ok then 7 else 6)]) w) :
    Calls Tryz.prog 13 #[.agg #[.int .i64 p.lc, .int .i64 p.lp, .int .i64 p.pb], .int .i64 d] w (retP Q) := by
  refine lzenc_New.calls ?_
  unfold lzenc_New.F
  by_cases hp : p.Ok
  · rw [if_pos hp] at hQ
    repeat' (first | (refine pc_state_PropsByte (PropsByte_in p hp hS ?_); clear hS; intro w hS) | (refine pc_window_New (WNew_no d (fun hd => h ⟨hp, hd⟩) ?_)) | (refine pN_neq_s ?_ ?_ <;> intro hc <;> try (exfalso; first | omega | exact hc rfl | exact hc (by assumption) | exact absurd hc (by assumption))) | refine pIf_t ?_ | refine pIf_f ?_ | refine pN_la hS (by rfl) ?_ | (refine pN_bx hS (by rfl) ?_; clear hS; intro a w hS) | refine pN_via (by (intro K; simp (disch := omega) only [go_sem, pN_min, pN_max, w_u32, w_u64, Option.isNone_some, Option.isNone_none]; (try simp only [wrap_u32, wrap_u64]); rfl)) ?_ | fail)
    exact hQ _ hS.to
  · rw [if_neg hp] at hQ
    repeat' (first | (refine pc_state_PropsByte (PropsByte_no p hp hpb hS ?_); clear hS; intro w hS) | (refine pN_neq_s ?_ ?_ <;> intro hc <;> try (exfalso; first | omega | exact hc rfl | exact hc (by assumption) | exact absurd hc (by assumption))) | refine pIf_t ?_ | refine pN_la hS (by rfl) ?_ | (refine pN_bx hS (by rfl) ?_; clear hS; intro a w hS) | refine pN_via (by (intro K; simp (disch := omega) only [go_sem, pN_min, pN_max, w_u32, w_u64, Option.isNone_some, Option.isNone_none]; (try simp only [wrap_u32, wrap_u64]); rfl)) ?_ | fail)
    exact hQ _ hS.to

theorem LCut_ok (hS : Sat E w (LEnc b e :: M)) (hk : e.s.k + 18 ≤ 140737488355328) (hQ : ∀ s w, Sat E w (rows cd_uint8 s e.s.bytes :: LEnc b e.cut :: M) → Q (.slice s.a e.s.bytes.length s.c) w) :
    Calls Tryz.prog 21 #[pz b] w (retP Q) := by
  refine lzenc_Encoder_Cut.calls ?_
  unfold lzenc_Encoder_Cut.F
  obtain ⟨he, t, wd, en, q, hS⟩ := LEnc.opn hS
  repeat' (first | (refine pc_rcenc_Encoder_Bytes (Bytes_ok (hS.fd (Enc en)) hk ?_); clear hS; intro sl w hS) | (refine pc_rcenc_New (NewE_ok hS ?_); clear hS; intro en2 w hS) | refine pN_l hS (by first | rfl | assumption) ?_ | (refine pN_s hS (by first | exact Nat.le_of_ble_eq_true rfl | assumption) (by rfl) ?_; clear hS; intro w hS; try simp only [List.set_cons_zero, List.set_cons_succ] at hS) | refine pN_via (by (intro K; simp (disch := omega) only [go_sem, pN_min, pN_max, w_u32, w_u64, Option.isNone_some, Option.isNone_none]; (try simp only [wrap_u32, wrap_u64]); rfl)) ?_ | fail)
  have hS : Sat E w (cel b ⟨128, encCells t wd en2⟩ :: cel t ⟨141, tbCells e.p e.st q⟩ :: Win wd e.x :: Enc en2 R.S.new :: tabs q e.T :: rows cd_uint8 sl e.s.bytes :: M) := hS.to
  have hS := LEnc.shut (e := ⟨e.p, e.st, e.T, e.x, R.S.new⟩) hS he.cut
  exact hQ _ _ (hS.perm (List.Perm.swap _ _ _))

theorem LReset_in {p : Z.Pr} (hp : p.Ok) (hS : Sat E w (LEnc b e :: M)) (hQ : ∀ w, Sat E w (LEnc b (e.reset p) :: M) → Q (.int .i64 0) w) :
    Calls Tryz.prog 26 #[pz b, .agg #[.int .i64 p.lc, .int .i64 p.lp, .int .i64 p.pb]] w (retP Q) := by
  refine lzenc_Encoder_Reset.calls ?_
  unfold lzenc_Encoder_Reset.F
  obtain ⟨he, t, wd, en, q, hS⟩ := LEnc.opn hS
  have er : e.reset p = ⟨p, Z.St.new, Z.T0 p, e.x, e.s⟩ := by rw [Z.EZ.reset, if_pos hp]
  have he2 := he.reset p
  rw [er] at hQ he2
  repeat' (first | (refine pc_state_PropsByte (PropsByte_in p hp hS ?_); clear hS; intro w hS) | (refine pc_model_New (MNew_ok hp hS ?_); clear hS; intro t2 q2 w hS) | (refine pN_neq_s ?_ ?_ <;> intro hc <;> try (exfalso; first | omega | exact hc rfl | exact hc (by assumption) | exact absurd hc (by assumption))) | refine pIf_f ?_ | refine pN_la hS (by rfl) ?_ | (refine pN_s hS (by first | exact Nat.le_of_ble_eq_true rfl | assumption) (by rfl) ?_; clear hS; intro w hS; try simp only [List.set_cons_zero, List.set_cons_succ] at hS) | (refine pN_bx hS (by rfl) ?_; clear hS; intro a w hS) | refine pN_via (by (intro K; simp (disch := omega) only [go_sem, pN_min, pN_max, w_u32, w_u64, Option.isNone_some, Option.isNone_none]; (try simp only [wrap_u32, wrap_u64]); rfl)) ?_ | fail)
  exact hQ _ (LEnc.shut (e := ⟨p, Z.St.new, Z.T0 p, e.x, e.s⟩) (t := t2) (wd := wd) (en := en) (q := q2) hS.to he2)
theorem LReset_no {p : Z.Pr} (hp : ¬ p.Ok) (hpb : -9223372036854775808 ≤ p.lc ∧ p.lc < 9223372036854775808) (hS : Sat E w (LEnc b e :: M)) (hQ : ∀ w, Sat E w (LEnc b e :: M) → Q (.int .i64 6) w) :
    Calls Tryz.prog 26 #[pz b, .agg #[.int .i64 p.lc, .int .i64 p.lp, .int .i64 p.pb]] w (retP Q) := by
  refine lzenc_Encoder_Reset.calls ?_
  unfold lzenc_Encoder_Reset.F
  repeat' (first | (refine pc_state_PropsByte (PropsByte_no p hp hpb hS ?_); clear hS; intro w hS) | (refine pN_neq_s ?_ ?_ <;> intro hc <;> try (exfalso; first | omega | exact hc rfl | exact hc (by assumption) | exact absurd hc (by assumption))) | refine pIf_t ?_ | refine pN_la hS (by rfl) ?_ | (refine pN_bx hS (by rfl) ?_; clear hS; intro a w hS) | refine pN_via (by (intro K; simp (disch := omega) only [go_sem, pN_min, pN_max, w_u32, w_u64, Option.isNone_some, Option.isNone_none]; (try simp only [wrap_u32, wrap_u64]); rfl)) ?_ | fail)
  exact hQ _ hS.to

theorem LClear_ok (hS : Sat E w (LEnc b e :: M)) (hQ : ∀ w, Sat E w (LEnc b e.clear :: M) → Q (.tuple #[]) w) :
    Calls Tryz.prog 28 #[pz b] w (retP Q) := by
  refine lzenc_Encoder_Clear.calls ?_
  unfold lzenc_Encoder_Clear.F
  obtain ⟨he, t, wd, en, q, hS⟩ := LEnc.opn hS
  repeat' (first | refine pN_la_at (n := 3) hS e.p.cells rfl rfl ?_ | (refine pc_model_New (MNew_ok he.p hS ?_); clear hS; intro t2 q2 w hS) | (refine pc_window_Window_Clear (WClear_ok (hS.fd (Win wd)) ?_); clear hS; intro w hS) | refine pN_l hS (by first | rfl | assumption) ?_ | (refine pN_s hS (by first | exact Nat.le_of_ble_eq_true rfl | assumption) (by rfl) ?_; clear hS; intro w hS; try simp only [List.set_cons_zero, List.set_cons_succ] at hS) | refine pN_via (by (intro K; simp (disch := omega) only [go_sem, pN_min, pN_max, w_u32, w_u64, Option.isNone_some, Option.isNone_none]; (try simp only [wrap_u32, wrap_u64]); rfl)) ?_ | fail)
  exact hQ _ (LEnc.shut (e := ⟨e.p, Z.St.new, Z.T0 e.p, ⟨e.x.size, []⟩, e.s⟩) (t := t2) (wd := wd) (en := en) (q := q2) hS.to he.clear)

set_option maxHeartbeats 2000000 in
theorem LPut_ok (hG : Glo W) (hS : Sat E w (LEnc b e :: M)) [h : Has (old W) M N] (hn : e.x.all.length + 273 ≤ 4611686018427387904) (hk : e.s.k + 1000 ≤ 140737488355328)
    (hQ : ∀ w, Sat E w (LEnc b (e.put y) :: M) → Q (.int .i64 (e.may y)) w) :
    Calls Tryz.prog 17 #[pz b, .agg #[.int .i64 y.Kind, bv y.Byte, .int .i64 y.Len, .int .i64 y.Dist]] w (retP Q) := by
  refine lzenc_Encoder_Put.calls ?_
  unfold lzenc_Encoder_Put.F
  obtain ⟨he, t, wd, en, q, hS⟩ := LEnc.opn hS
  by_cases hm : e.may y = 0
  · have hy := Z.may_err hm
    have hput : e.put y = e.put1 y := by rw [Z.EZ.put, if_pos hm]
    have hm' : Z.may e.x e.st y = 0 := hm
    rw [hput, hm] at hQ
    repeat' (first | (refine pc_lzenc_Encoder_may (may_ok hG he.st (hS.fd3 (cel b) (cel t) (Win wd)) ?_); rw [hm']; clear hS; intro w hS) | refine pN_ifc ?_ | refine pL_la_at hS _ (by rfl) (by rfl) ?_ | refine ⟨⟨run_la_at hS _ (by rfl) (by rfl), trivial⟩, ?_⟩ | (refine pN_neq_s ?_ ?_ <;> intro hc <;> try (exfalso; first | omega | exact hc rfl | exact hc (by assumption) | exact absurd hc (by assumption))) | refine pIf_f ?_ | refine pL_l hS (by first | rfl | assumption) ?_ | refine pN_la hS (by rfl) ?_ | (refine pDr_go hS ?_; clear hS; intro w hS) | (refine pN_bx hS (by rfl) ?_; clear hS; intro a w hS) | refine pN_via (by (intro K; simp (disch := omega) only [go_sem, pN_min, pN_max, w_u32, w_u64, Option.isNone_some, Option.isNone_none]; (try simp only [wrap_u32, wrap_u64]); rfl)) ?_ | refine pA_via (by (intro K; simp (disch := omega) only [go_sem, pN_min, pN_max, w_u32, w_u64, Option.isNone_some, Option.isNone_none]; (try simp only [wrap_u32, wrap_u64]); rfl)) ?_ | fail)
    have hS := codX.shut (p := e.p) (en := en) (q := q) (z := ⟨e.s, e.T⟩) (m := []) (fun _ h => (by cases h)) (hS.hs2 (Enc en e.s) (tabs q e.T)) rfl
    refine pc_lzenc_Encoder_code (code_ok (X := codX e.p en q ⟨e.s, e.T⟩) (cod_snk he.p ⟨he.s, he.T⟩ hk) he.p he.st hy hS (by omega) fun w hS => ?_)
    obtain ⟨_, hS⟩ := codX.opn hS
    have hput1 := (he.put1 hm).1
    unfold Z.EZ.put1 Z.EZ.es Z.EZ.ops at hQ hput1
    generalize Z.runO ⟨e.s, e.T⟩ (Z.symOps e.p e.st e.x y) = zz at *
    repeat' (first | refine pL_la_at hS _ (by rfl) (by rfl) ?_ | refine ⟨trivial, ?_⟩ | refine pL_l hS (by first | rfl | assumption) ?_ | (refine pDr_go hS ?_; clear hS; intro w hS) | refine ⟨trivial, ?_⟩ | refine pA_via (by (intro K; simp (disch := omega) only [go_sem, pN_min, pN_max, w_u32, w_u64, Option.isNone_some, Option.isNone_none]; (try simp only [wrap_u32, wrap_u64]); rfl)) ?_ | fail)
    refine ⟨?_, ?_⟩
    · repeat' (first | (refine pc_symbol_Apply (Apply_in hG (hS.fd (Win wd)) he.st hm' hn ?_); clear hS; intro s' w hS) | (refine pN_sa hS (by rfl) (by rfl) (by rfl) ?_; clear hS; intro w hS; try dsimp only at hS) | (refine pN_nz hS ?_; clear hS; intro a w hS) | refine ⟨trivial, ?_⟩ | refine pA_via (by (intro K; simp (disch := omega) only [go_sem, pN_min, pN_max, w_u32, w_u64, Option.isNone_some, Option.isNone_none]; (try simp only [wrap_u32, wrap_u64]); rfl)) ?_ | fail)
      refine ⟨fun w => Sat E w (cel b ⟨128, encCells t wd en⟩ :: cel t ⟨141, tbCells e.p (e.st.next y) q⟩ :: Win wd (e.x.put (Z.made e.x e.st y)) :: Enc en zz.s :: tabs q zz.T :: M), ?_, ?_⟩
      · repeat' (first | refine pL_la_at (n := 5) hS (e.st.next y).cells rfl rfl ?_ | (refine pN_sa_at (us := (e.st.next y).cells) hS rfl (Nat.le_of_ble_eq_true rfl) rfl ?_; clear hS; intro w hS) | (refine pN_eql_s ?_ ?_ <;> intro hc <;> try (exfalso; first | omega | exact hc rfl | exact hc (by assumption) | exact absurd hc (by assumption))) | refine pIf_t ?_ | refine pL_l hS (by first | rfl | assumption) ?_ | (refine pDr_go hS ?_; clear hS; intro w hS) | refine ⟨trivial, ?_⟩ | refine pA_via (by (intro K; simp (disch := omega) only [go_sem, pN_min, pN_max, w_u32, w_u64, Option.isNone_some, Option.isNone_none]; (try simp only [wrap_u32, wrap_u64]); rfl)) ?_ | fail)
        have hS := cel_conv (o' := ⟨141, tbCells e.p (e.st.next y) q⟩) rfl hS
        exact hS.to
      · clear hS
        rintro _ w hS
        exact hQ _ (LEnc.shut (e := ⟨e.p, e.st.next y, zz.T, e.x.put (Z.made e.x e.st y), zz.s⟩) (t := t) (wd := wd) (en := en) (q := q) hS.to hput1)
    · repeat' (first | refine ⟨⟨run_la_at hS _ (by rfl) (by rfl), run_la_at (n := 5) hS e.st.cells rfl rfl, run_l hS (by rfl), run_l hS (by rfl), trivial⟩, ?_⟩ | (refine pc_symbol_Apply (Apply_in hG (hS.fd (Win wd)) he.st hm' hn ?_); clear hS; intro s' w hS) | (refine pN_sa hS (by rfl) (by rfl) (by rfl) ?_; clear hS; intro w hS; try dsimp only at hS) | (refine pN_nz hS ?_; clear hS; intro a w hS) | refine ⟨trivial, ?_⟩ | refine pA_via (by (intro K; simp (disch := omega) only [go_sem, pN_min, pN_max, w_u32, w_u64, Option.isNone_some, Option.isNone_none]; (try simp only [wrap_u32, wrap_u64]); rfl)) ?_ | fail)
      refine ⟨fun w => Sat E w (cel b ⟨128, encCells t wd en⟩ :: cel t ⟨141, tbCells e.p (e.st.next y) q⟩ :: Win wd (e.x.put (Z.made e.x e.st y)) :: Enc en zz.s :: tabs q zz.T :: M), ?_, ?_⟩
      · repeat' (first | refine pL_la_at (n := 5) hS (e.st.next y).cells rfl rfl ?_ | (refine pN_sa_at (us := (e.st.next y).cells) hS rfl (Nat.le_of_ble_eq_true rfl) rfl ?_; clear hS; intro w hS) | (refine pN_eql_s ?_ ?_ <;> intro hc <;> try (exfalso; first | omega | exact hc rfl | exact hc (by assumption) | exact absurd hc (by assumption))) | refine pIf_t ?_ | refine pL_l hS (by first | rfl | assumption) ?_ | (refine pDr_go hS ?_; clear hS; intro w hS) | refine ⟨trivial, ?_⟩ | refine pA_via (by (intro K; simp (disch := omega) only [go_sem, pN_min, pN_max, w_u32, w_u64, Option.isNone_some, Option.isNone_none]; (try simp only [wrap_u32, wrap_u64]); rfl)) ?_ | fail)
        have hS := cel_conv (o' := ⟨141, tbCells e.p (e.st.next y) q⟩) rfl hS
        exact hS.to
      · clear hS
        rintro _ w hS
        exact hQ _ (LEnc.shut (e := ⟨e.p, e.st.next y, zz.T, e.x.put (Z.made e.x e.st y), zz.s⟩) (t := t) (wd := wd) (en := en) (q := q) hS.to hput1)
  · have hput : e.put y = e := by rw [Z.EZ.put, if_neg hm]
    rw [hput] at hQ
    have hm' : ¬ Z.may e.x e.st y = 0 := hm
    repeat' (first | (refine pc_lzenc_Encoder_may (may_ok hG he.st (hS.fd3 (cel b) (cel t) (Win wd)) ?_); clear hS; intro w hS) | (refine pN_neq_s ?_ ?_ <;> intro hc <;> try (exfalso; first | omega | exact hc rfl | exact hc (by assumption) | exact absurd hc (by assumption))) | refine pIf_t ?_ | refine pN_la hS (by rfl) ?_ | (refine pN_bx hS (by rfl) ?_; clear hS; intro a w hS) | fail)
    exact hQ _ (LEnc.shut (t := t) (wd := wd) (en := en) (q := q) hS.to he)
end

end Go.Proofs.YtbgnnjfpiblkmaaGreatDoor

namespace Go.Proofs.YtbgnnjfpiblkmaaGreatDoor
open Go
set_option linter.unusedSimpArgs false
set_option linter.unnecessarySimpa false
set_option linter.unusedSectionVars false
set_option linter.unusedVariables false
namespace Z
/-- A decoder, or one that is spent: its properties, its dictionary, how many bytes have come at most. -/
inductive DS
  | ok (e : DZ)
  | sp (p : Pr) (size : Int) (n : Nat)
def DS.bad : DS → Bool
  | .ok _ => false
  | .sp _ _ _ => true
def DS.fits : DS → DZ → Prop
  | .ok e, y => y = e
  | .sp p z n, y => y.p = p ∧ y.x.size = z ∧ y.x.all.length ≤ n
def DS.p : DS → Pr
  | .ok e => e.p
  | .sp p _ _ => p
def DS.len : DS → Nat
  | .ok e => e.x.all.length
  | .sp _ _ n => n
def DS.raw (b : List UInt8) : DS → DS
  | .ok e => .ok (e.raw b)
  | .sp p z n => .sp p z (n + b.length)
def DS.reset (p' : Pr) : DS → DS
  | .ok e => .ok (e.reset p')
  | .sp p z n => .sp (if p'.Ok then p' else p) z n
def DS.clear : DS → DS
  | .ok e => .ok e.clear
  | .sp p z _ => .ok (DZ.new p z)
/-- What Take comes to: the decoder behind it, the error, the symbols, the bytes. -/
structure TR where
  d : DS
  e : Int
  l : List Y
  out : List UInt8
def DS.take (d : DS) (b : List UInt8) (n : Int) : TR :=
  if 1 ≤ n ∧ n ≤ 2097152 then match d with
    | .sp p z m => ⟨.sp p z m, 2, [], []⟩
    | .ok e => match e.take b n with
      | none => ⟨.sp e.p e.x.size (e.x.all.length + n.toNat), 2, [], []⟩
      | some r => ⟨.ok r.1, 0, r.2.1, r.2.2⟩
  else ⟨d, 7, [], []⟩
theorem stepD_none1 {p : Pr} {n : Int} {s : LS} (h : (symRd p s.st s.x).run s.z = none) : stepD p n s = none := by
  unfold stepD; rw [h]
theorem stepD_none2 {p : Pr} {n : Int} {s : LS} {z : RS} {y : Y} (h : (symRd p s.st s.x).run s.z = some (z, y)) (hc : ¬ (may s.x s.st y = 0 ∧ size y ≤ n - s.out.length)) : stepD p n s = none := by
  unfold stepD; rw [h]; simp only [if_neg hc]
theorem stepD_go {p : Pr} {n : Int} {s : LS} {z : RS} {y : Y} (h : (symRd p s.st s.x).run s.z = some (z, y)) (h1 : may s.x s.st y = 0) (h2 : size y ≤ n - s.out.length) : stepD p n s = some (s.step z y) := by
  unfold stepD; rw [h]; simp only [if_pos (show may s.x s.st y = 0 ∧ size y ≤ n - s.out.length from ⟨h1, h2⟩)]
theorem loopD_go {p : Pr} {n : Int} {f : Nat} {s : LS} (h : (s.out.length : Int) < n) : loopD p n (f + 1) s = match stepD p n s with
    | none => none
    | some t => loopD p n f t := by
  rw [loopD, if_pos h]
  cases stepD p n s <;> rfl
theorem loopD_end {p : Pr} {n : Int} {f : Nat} {s : LS} (h : ¬ (s.out.length : Int) < n) : loopD p n f s = some s := by
  cases f with
  | zero => rw [loopD, if_neg h]
  | succ f => rw [loopD, if_neg h]
end Z

/-- A decoder. -/
def LDec (b : Nat) (d : Z.DS) : HA := fun h => ∃ k : (Nat × Nat × (Nat → Nat)) × Z.DZ, (k.2.Ok ∧ d.fits k.2) ∧ Sats [cel b ⟨171, dcCells k.1.1 k.1.2.1 d.bad⟩, cel k.1.1 ⟨141, tbCells k.2.p k.2.st k.1.2.2⟩, Win k.1.2.1 k.2.x, tabs k.1.2.2 k.2.T] h
section
variable {E w : World} {M : List HA} {b t wd : Nat} {q : Nat → Nat} {d : Z.DS} {e : Z.DZ}
theorem LDec.opn (hS : Sat E w (LDec b d :: M)) : ∃ t wd q e, e.Ok ∧ d.fits e ∧ Sat E w (cel b ⟨171, dcCells t wd d.bad⟩ :: cel t ⟨141, tbCells e.p e.st q⟩ :: Win wd e.x :: tabs q e.T :: M) := by
  obtain ⟨k, hS⟩ := hS.ex
  obtain ⟨h1, ⟨hA, _⟩, _⟩ := hS.head
  exact ⟨k.1.1, k.1.2.1, k.1.2.2, k.2, hA.1, hA.2, hS.open_ (M := [_, _, _, _]) fun _ h => h.2⟩
theorem LDec.shut (hS : Sat E w (cel b ⟨171, dcCells t wd d.bad⟩ :: cel t ⟨141, tbCells e.p e.st q⟩ :: Win wd e.x :: tabs q e.T :: M)) (he : e.Ok) (hf : d.fits e) : Sat E w (LDec b d :: M) :=
  Sat.shut (M := [_, _, _, _]) hS fun _ h => ⟨((t, wd, q), e), ⟨he, hf⟩, h⟩
end
attribute [local irreducible] oMv oV oU oCall oCallV oBi oBin oUn oLoad oStore oNil oFld oField oIdx oIndex oPick oAlloc oBox oBuild oBs oConv oMk oSl oExt oFn oIface oMap oLook oMapUp oRange oNext oEntry oInv oAssert oPanic oRes pN pA pL pDr pIf gA pGd

section
variable {E w W : World} {M N : List HA} {Q : Value → World → Prop} {b : Nat} {d : Z.DS}

theorem DcNew_in {p : Z.Pr} (hS : Sat E w M) (hp : p.Ok) (n : Int) (h0 : 1 ≤ n) (h1 : n ≤ 4294967295) (hQ : ∀ b w, Sat E w (LDec b (.ok (Z.DZ.new p n)) :: M) → Q (.tuple #[pz b, .int .i64 0]) w) :
    Calls Tryz.prog 41 #[.agg #[.int .i64 p.lc, .int .i64 p.lp, .int .i64 p.pb], .int .i64 n] w (retP Q) := by
  refine lzdec_New.calls ?_
  unfold lzdec_New.F
  repeat' (first | (refine pc_state_PropsByte (PropsByte_in p hp hS ?_); clear hS; intro w hS) | (refine pc_window_New (WNew_in hS n h0 h1 ?_); clear hS; intro wd w hS) | (refine pc_model_New (MNew_ok hp hS ?_); clear hS; intro t q w hS) | (refine pN_neq_s ?_ ?_ <;> intro hc <;> try (exfalso; first | omega | exact hc rfl | exact hc (by assumption) | exact absurd hc (by assumption))) | refine pIf_f ?_ | refine pN_la hS (by rfl) ?_ | (refine pN_bx hS (by rfl) ?_; clear hS; intro a w hS) | refine pN_via (by (intro K; simp (disch := omega) only [go_sem, pN_min, pN_max, w_u32, w_u64, Option.isNone_some, Option.isNone_none]; (try simp only [wrap_u32, wrap_u64]); rfl)) ?_ | fail)
  have hS4 : Sat E w (cel a ⟨171, [pz t, pz wd, .bool false]⟩ :: cel t ⟨141, tbCells p Z.St.new q⟩ :: Win wd ⟨n, []⟩ :: tabs q (Z.T0 p) :: M) := hS.to
  exact hQ _ _ (LDec.shut (d := .ok (Z.DZ.new p n)) (e := Z.DZ.new p n) (t := t) (wd := wd) (q := q) hS4 (Z.DZ.Ok.new hp n) rfl)
theorem DcNew_no {p : Z.Pr} (hS : Sat E w M) (n : Int) (hpb : -9223372036854775808 ≤ p.lc ∧ p.lc < 9223372036854775808) (h : ¬ (p.Ok ∧ 1 ≤ n ∧ n ≤ 4294967295)) (hQ : ∀ w, Sat E w M → Q (.tuple #[.pointer none, .int .i64 (if p.Ok then 7 else 6)]) w) :
    Calls Tryz.prog 41 #[.agg #[.int .i64 p.lc, .int .i64 p.lp, .int .i64 p.pb], .int .i64 n] w (retP Q) := by
  refine lzdec_New.calls ?_
  unfold lzdec_New.F
  by_cases hp : p.Ok
  · rw [if_pos hp] at hQ
    repeat' (first | (refine pc_state_PropsByte (PropsByte_in p hp hS ?_); clear hS; intro w hS) | (refine pc_window_New (WNew_no n (fun hd => h ⟨hp, hd⟩) ?_)) | (refine pN_neq_s ?_ ?_ <;> intro hc <;> try (exfalso; first | omega | exact hc rfl | exact hc (by assumption) | exact absurd hc (by assumption))) | refine pIf_t ?_ | refine pIf_f ?_ | refine pN_la hS (by rfl) ?_ | (refine pN_bx hS (by rfl) ?_; clear hS; intro a w hS) | refine pN_via (by (intro K; simp (disch := omega) only [go_sem, pN_min, pN_max, w_u32, w_u64, Option.isNone_some, Option.isNone_none]; (try simp only [wrap_u32, wrap_u64]); rfl)) ?_ | fail)
    exact hQ _ hS.to
  · rw [if_neg hp] at hQ
    repeat' (first | (refine pc_state_PropsByte (PropsByte_no p hp hpb hS ?_); clear hS; intro w hS) | (refine pN_neq_s ?_ ?_ <;> intro hc <;> try (exfalso; first | omega | exact hc rfl | exact hc (by assumption) | exact absurd hc (by assumption))) | refine pIf_t ?_ | refine pN_la hS (by rfl) ?_ | (refine pN_bx hS (by rfl) ?_; clear hS; intro a w hS) | refine pN_via (by (intro K; simp (disch := omega) only [go_sem, pN_min, pN_max, w_u32, w_u64, Option.isNone_some, Option.isNone_none]; (try simp only [wrap_u32, wrap_u64]); rfl)) ?_ | fail)
    exact hQ _ hS.to

theorem DcRaw_ok {s0 : Sl} {l : List UInt8} (hS : Sat E w (LDec b d :: M)) [hl : Rds cd_uint8 M s0 l] (hn : d.len + l.length ≤ 4611686018427387904) (hQ : ∀ w, Sat E w (LDec b (d.raw l) :: M) → Q (.tuple #[]) w) :
    Calls Tryz.prog 51 #[pz b, .slice s0.a l.length s0.c] w (retP Q) := by
  refine lzdec_Decoder_Raw.calls ?_
  unfold lzdec_Decoder_Raw.F
  obtain ⟨t, wd, q, e, he, hf, hS⟩ := LDec.opn hS
  have hx : e.x.all.length ≤ d.len := by
    cases d with
    | ok e' => cases hf; exact Nat.le_refl _
    | sp p z n => exact hf.2.2
  repeat' (first | (refine pc_window_Window_Put (WPut_ok (hS.fd (Win wd)) (by omega) ?_); clear hS; intro w hS) | refine pN_l hS (by first | rfl | assumption) ?_ | refine pN_via (by (intro K; simp (disch := omega) only [go_sem, pN_min, pN_max, w_u32, w_u64, Option.isNone_some, Option.isNone_none]; (try simp only [wrap_u32, wrap_u64]); rfl)) ?_ | fail)
  have hS4 := hS.fd4 (cel b) (cel t) (Win wd) (tabs q)
  clear hS
  refine hQ _ (LDec.shut (d := d.raw l) (e := e.raw l) (t := t) (wd := wd) (q := q) ?_ (he.raw l) ?_)
  · cases d with
    | ok e' => exact hS4
    | sp p z n => exact hS4
  · cases d with
    | ok e' => cases hf; rfl
    | sp p z n => exact ⟨hf.1, hf.2.1, by simp only [Z.DZ.raw, Z.W.put, List.length_append]; have := hf.2.2; omega⟩

theorem DcReset_in {p : Z.Pr} (hp : p.Ok) (hS : Sat E w (LDec b d :: M)) (hQ : ∀ w, Sat E w (LDec b (d.reset p) :: M) → Q (.int .i64 0) w) :
    Calls Tryz.prog 52 #[pz b, .agg #[.int .i64 p.lc, .int .i64 p.lp, .int .i64 p.pb]] w (retP Q) := by
  refine lzdec_Decoder_Reset.calls ?_
  unfold lzdec_Decoder_Reset.F
  obtain ⟨t, wd, q, e, he, hf, hS⟩ := LDec.opn hS
  have er : e.reset p = ⟨p, Z.St.new, Z.T0 p, e.x⟩ := by rw [Z.DZ.reset, if_pos hp]
  have he2 := he.reset p
  rw [er] at he2
  repeat' (first | (refine pc_state_PropsByte (PropsByte_in p hp hS ?_); clear hS; intro w hS) | refine pN_la hS (by rfl) ?_ | (refine pN_bx hS (by rfl) ?_; clear hS; intro a w hS) | refine pN_via (by (intro K; simp (disch := omega) only [go_sem, pN_min, pN_max, w_u32, w_u64, Option.isNone_some, Option.isNone_none]; (try simp only [wrap_u32, wrap_u64]); rfl)) ?_ | fail)
  refine ⟨fun w => ∃ t q, Sat E w (cel b ⟨171, dcCells t wd d.bad⟩ :: cel t ⟨141, tbCells p Z.St.new q⟩ :: Win wd e.x :: tabs q (Z.T0 p) :: M), ?_, ?_⟩
  · repeat' (first | (refine pc_model_New (MNew_ok hp hS ?_); clear hS; intro t2 q2 w hS) | (refine pN_eql_s ?_ ?_ <;> intro hc <;> try (exfalso; first | omega | exact hc rfl | exact hc (by assumption) | exact absurd hc (by assumption))) | refine pIf_t ?_ | refine pN_la hS (by rfl) ?_ | (refine pN_s hS (by first | exact Nat.le_of_ble_eq_true rfl | assumption) (by rfl) ?_; clear hS; intro w hS; try simp only [List.set_cons_zero, List.set_cons_succ] at hS) | refine pN_via (by (intro K; simp (disch := omega) only [go_sem, pN_min, pN_max, w_u32, w_u64, Option.isNone_some, Option.isNone_none]; (try simp only [wrap_u32, wrap_u64]); rfl)) ?_ | fail)
    have hS4 : Sat E w (cel b ⟨171, [pz t2, pz wd, .bool d.bad]⟩ :: cel t2 ⟨141, tbCells p Z.St.new q2⟩ :: Win wd e.x :: tabs q2 (Z.T0 p) :: M) := hS.to
    exact ⟨t2, q2, hS4⟩
  clear hS
  rintro _ w ⟨t, q, hS⟩
  skip
  refine hQ _ (LDec.shut (d := d.reset p) (e := ⟨p, Z.St.new, Z.T0 p, e.x⟩) (t := t) (wd := wd) (q := q) ?_ he2 ?_)
  · cases d with
    | ok e' => exact hS
    | sp p z n => exact hS
  · cases d with
    | ok e' => cases hf; exact er.symm
    | sp p' z n => exact ⟨(if_pos hp).symm, hf.2.1, hf.2.2⟩
theorem DcReset_no {p : Z.Pr} (hp : ¬ p.Ok) (hpb : -9223372036854775808 ≤ p.lc ∧ p.lc < 9223372036854775808) (hS : Sat E w (LDec b d :: M)) (hQ : ∀ w, Sat E w (LDec b d :: M) → Q (.int .i64 6) w) :
    Calls Tryz.prog 52 #[pz b, .agg #[.int .i64 p.lc, .int .i64 p.lp, .int .i64 p.pb]] w (retP Q) := by
  refine lzdec_Decoder_Reset.calls ?_
  unfold lzdec_Decoder_Reset.F
  repeat' (first | (refine pc_state_PropsByte (PropsByte_no p hp hpb hS ?_); clear hS; intro w hS) | refine pN_la hS (by rfl) ?_ | (refine pN_bx hS (by rfl) ?_; clear hS; intro a w hS) | refine pN_via (by (intro K; simp (disch := omega) only [go_sem, pN_min, pN_max, w_u32, w_u64, Option.isNone_some, Option.isNone_none]; (try simp only [wrap_u32, wrap_u64]); rfl)) ?_ | fail)
  refine ⟨fun w => Sat E w (LDec b d :: M), ?_, ?_⟩
  · repeat' (first | (refine pN_eql_s ?_ ?_ <;> intro hc <;> try (exfalso; first | omega | exact hc rfl | exact hc (by assumption) | exact absurd hc (by assumption))) | refine pIf_f ?_ | fail)
    exact hS.to
  clear hS
  rintro _ w hS
  skip
  exact hQ _ hS.to

theorem DcClear_ok (hS : Sat E w (LDec b d :: M)) (hQ : ∀ w, Sat E w (LDec b d.clear :: M) → Q (.tuple #[]) w) :
    Calls Tryz.prog 53 #[pz b] w (retP Q) := by
  refine lzdec_Decoder_Clear.calls ?_
  unfold lzdec_Decoder_Clear.F
  obtain ⟨t, wd, q, e, he, hf, hS⟩ := LDec.opn hS
  repeat' (first | refine pN_la_at (n := 3) hS e.p.cells rfl rfl ?_ | (refine pc_model_New (MNew_ok he.p hS ?_); clear hS; intro t2 q2 w hS) | (refine pc_window_Window_Clear (WClear_ok (hS.fd (Win wd)) ?_); clear hS; intro w hS) | refine pN_l hS (by first | rfl | assumption) ?_ | (refine pN_s hS (by first | exact Nat.le_of_ble_eq_true rfl | assumption) (by rfl) ?_; clear hS; intro w hS; try simp only [List.set_cons_zero, List.set_cons_succ] at hS) | refine pN_via (by (intro K; simp (disch := omega) only [go_sem, pN_min, pN_max, w_u32, w_u64, Option.isNone_some, Option.isNone_none]; (try simp only [wrap_u32, wrap_u64]); rfl)) ?_ | fail)
  have hS4 : Sat E w (cel b ⟨171, [pz t2, pz wd, .bool false]⟩ :: cel t2 ⟨141, tbCells e.p Z.St.new q2⟩ :: Win wd ⟨e.x.size, []⟩ :: tabs q2 (Z.T0 e.p) :: M) := hS.to
  clear hS
  refine hQ _ (LDec.shut (d := d.clear) (e := e.clear) (t := t2) (wd := wd) (q := q2) ?_ he.clear ?_)
  · cases d with
    | ok e' => exact hS4
    | sp p z n => exact hS4
  · cases d with
    | ok e' => cases hf; rfl
    | sp p z n =>
      obtain ⟨rfl, rfl, _⟩ := hf
      rfl

theorem SySize_ok (hG : Glo W) (hS : Sat E w M) [h : Has (old W) M N] (y : Z.Y) (hQ : ∀ w, Sat E w M → Q (.int .i64 (Z.size y)) w) :
    Calls Tryz.prog 94 #[.agg #[.int .i64 y.Kind, bv y.Byte, .int .i64 y.Len, .int .i64 y.Dist]] w (retP Q) := by
  refine symbol_Size.calls ?_
  unfold symbol_Size.F
  unfold Z.size at hQ
  by_cases hy : Z.errY y = 0
  · rw [if_neg (by omega)] at hQ
    by_cases hk : y.Kind = 2 ∨ y.Kind = 3
    · rw [if_pos hk] at hQ
      by_cases h2 : y.Kind = 2
      · repeat' (first | refine pL_la hS (by rfl) ?_ | (refine pDr_go hS ?_; clear hS; intro w hS) | (refine pN_bx hS (by rfl) ?_; clear hS; intro a w hS) | fail)
        refine ⟨?_, ?_⟩
        · repeat' (first | (refine pc_state_New (SNew_ok hS ?_); clear hS; intro w hS) | refine ⟨⟨run_la_at (n := 4) hS [.int .i64 y.Kind, bv y.Byte, .int .i64 y.Len, .int .i64 y.Dist] rfl rfl, trivial⟩, ?_⟩ | fail)
          refine ⟨?_, ?_⟩
          all_goals
            repeat' (first | (refine pc_state_State_Next (Next_in (s := Z.St.new) hG hS Z.St.Right.new hy ?_); clear hS; intro w hS) | refine ⟨⟨run_la_at (n := 4) hS [.int .i64 y.Kind, bv y.Byte, .int .i64 y.Len, .int .i64 y.Dist] rfl rfl, trivial⟩, ?_⟩ | ((first | refine pN_eql_s ?_ ?_ | refine pN_neq_s ?_ ?_) <;> intro hc <;> try (exfalso; first | omega | exact hc rfl | exact hc (by assumption) | exact absurd hc (by assumption))) | refine pIf_t ?_ | refine pIf_f ?_ | refine pGd_no (by rfl) ?_ | refine pN_l hS (by first | rfl | assumption) ?_ | (refine pN_sa hS (by rfl) (by rfl) (by rfl) ?_; clear hS; intro w hS; try dsimp only at hS) | (refine pN_nz hS ?_; clear hS; intro a w hS) | refine ⟨trivial, ?_⟩ | refine pN_via (by (intro K; simp (disch := omega) only [go_sem, pN_min, pN_max, w_u32, w_u64, Option.isNone_some, Option.isNone_none]; (try simp only [wrap_u32, wrap_u64]); rfl)) ?_ | refine pA_via (by (intro K; simp (disch := omega) only [go_sem, pN_min, pN_max, w_u32, w_u64, Option.isNone_some, Option.isNone_none]; (try simp only [wrap_u32, wrap_u64]); rfl)) ?_ | fail)
            exact hQ _ hS.to
        · repeat' (first | (refine pc_state_New (SNew_ok hS ?_); clear hS; intro w hS) | (refine pc_state_State_Next (Next_in (s := Z.St.new) hG hS Z.St.Right.new hy ?_); clear hS; intro w hS) | refine ⟨⟨run_la_at (n := 4) hS [.int .i64 y.Kind, bv y.Byte, .int .i64 y.Len, .int .i64 y.Dist] rfl rfl, trivial⟩, ?_⟩ | ((first | refine pN_eql_s ?_ ?_ | refine pN_neq_s ?_ ?_) <;> intro hc <;> try (exfalso; first | omega | exact hc rfl | exact hc (by assumption) | exact absurd hc (by assumption))) | refine pIf_t ?_ | refine pIf_f ?_ | refine pGd_no (by rfl) ?_ | refine pN_l hS (by first | rfl | assumption) ?_ | (refine pN_sa hS (by rfl) (by rfl) (by rfl) ?_; clear hS; intro w hS; try dsimp only at hS) | (refine pN_nz hS ?_; clear hS; intro a w hS) | refine ⟨trivial, ?_⟩ | refine pN_via (by (intro K; simp (disch := omega) only [go_sem, pN_min, pN_max, w_u32, w_u64, Option.isNone_some, Option.isNone_none]; (try simp only [wrap_u32, wrap_u64]); rfl)) ?_ | refine pA_via (by (intro K; simp (disch := omega) only [go_sem, pN_min, pN_max, w_u32, w_u64, Option.isNone_some, Option.isNone_none]; (try simp only [wrap_u32, wrap_u64]); rfl)) ?_ | fail)
          exact hQ _ hS.to
      · repeat' (first | refine pL_la hS (by rfl) ?_ | (refine pDr_go hS ?_; clear hS; intro w hS) | (refine pN_bx hS (by rfl) ?_; clear hS; intro a w hS) | fail)
        refine ⟨?_, ?_⟩
        · repeat' (first | (refine pc_state_New (SNew_ok hS ?_); clear hS; intro w hS) | refine ⟨⟨run_la_at (n := 4) hS [.int .i64 y.Kind, bv y.Byte, .int .i64 y.Len, .int .i64 y.Dist] rfl rfl, trivial⟩, ?_⟩ | fail)
          refine ⟨?_, ?_⟩
          all_goals
            repeat' (first | (refine pc_state_State_Next (Next_in (s := Z.St.new) hG hS Z.St.Right.new hy ?_); clear hS; intro w hS) | refine ⟨⟨run_la_at (n := 4) hS [.int .i64 y.Kind, bv y.Byte, .int .i64 y.Len, .int .i64 y.Dist] rfl rfl, trivial⟩, ?_⟩ | ((first | refine pN_eql_s ?_ ?_ | refine pN_neq_s ?_ ?_) <;> intro hc <;> try (exfalso; first | omega | exact hc rfl | exact hc (by assumption) | exact absurd hc (by assumption))) | refine pIf_t ?_ | refine pIf_f ?_ | refine pGd_go (by rfl) ?_ | refine pN_l hS (by first | rfl | assumption) ?_ | (refine pN_sa hS (by rfl) (by rfl) (by rfl) ?_; clear hS; intro w hS; try dsimp only at hS) | (refine pN_nz hS ?_; clear hS; intro a w hS) | refine ⟨trivial, ?_⟩ | refine pN_via (by (intro K; simp (disch := omega) only [go_sem, pN_min, pN_max, w_u32, w_u64, Option.isNone_some, Option.isNone_none]; (try simp only [wrap_u32, wrap_u64]); rfl)) ?_ | refine pA_via (by (intro K; simp (disch := omega) only [go_sem, pN_min, pN_max, w_u32, w_u64, Option.isNone_some, Option.isNone_none]; (try simp only [wrap_u32, wrap_u64]); rfl)) ?_ | fail)
            exact hQ _ hS.to
        · repeat' (first | (refine pc_state_New (SNew_ok hS ?_); clear hS; intro w hS) | (refine pc_state_State_Next (Next_in (s := Z.St.new) hG hS Z.St.Right.new hy ?_); clear hS; intro w hS) | refine ⟨⟨run_la_at (n := 4) hS [.int .i64 y.Kind, bv y.Byte, .int .i64 y.Len, .int .i64 y.Dist] rfl rfl, trivial⟩, ?_⟩ | ((first | refine pN_eql_s ?_ ?_ | refine pN_neq_s ?_ ?_) <;> intro hc <;> try (exfalso; first | omega | exact hc rfl | exact hc (by assumption) | exact absurd hc (by assumption))) | refine pIf_t ?_ | refine pIf_f ?_ | refine pGd_go (by rfl) ?_ | refine pN_l hS (by first | rfl | assumption) ?_ | (refine pN_sa hS (by rfl) (by rfl) (by rfl) ?_; clear hS; intro w hS; try dsimp only at hS) | (refine pN_nz hS ?_; clear hS; intro a w hS) | refine ⟨trivial, ?_⟩ | refine pN_via (by (intro K; simp (disch := omega) only [go_sem, pN_min, pN_max, w_u32, w_u64, Option.isNone_some, Option.isNone_none]; (try simp only [wrap_u32, wrap_u64]); rfl)) ?_ | refine pA_via (by (intro K; simp (disch := omega) only [go_sem, pN_min, pN_max, w_u32, w_u64, Option.isNone_some, Option.isNone_none]; (try simp only [wrap_u32, wrap_u64]); rfl)) ?_ | fail)
          exact hQ _ hS.to
    · rw [if_neg hk] at hQ
      repeat' (first | refine pL_la hS (by rfl) ?_ | (refine pDr_go hS ?_; clear hS; intro w hS) | (refine pN_bx hS (by rfl) ?_; clear hS; intro a w hS) | fail)
      refine ⟨?_, ?_⟩
      · repeat' (first | (refine pc_state_New (SNew_ok hS ?_); clear hS; intro w hS) | refine ⟨⟨run_la_at (n := 4) hS [.int .i64 y.Kind, bv y.Byte, .int .i64 y.Len, .int .i64 y.Dist] rfl rfl, trivial⟩, ?_⟩ | fail)
        refine ⟨?_, ?_⟩
        all_goals
          repeat' (first | (refine pc_state_State_Next (Next_in (s := Z.St.new) hG hS Z.St.Right.new hy ?_); clear hS; intro w hS) | refine ⟨⟨run_la_at (n := 4) hS [.int .i64 y.Kind, bv y.Byte, .int .i64 y.Len, .int .i64 y.Dist] rfl rfl, trivial⟩, ?_⟩ | ((first | refine pN_eql_s ?_ ?_ | refine pN_neq_s ?_ ?_) <;> intro hc <;> try (exfalso; first | omega | exact hc rfl | exact hc (by assumption) | exact absurd hc (by assumption))) | refine pIf_f ?_ | refine pGd_go (by rfl) ?_ | refine pN_l hS (by first | rfl | assumption) ?_ | (refine pN_sa hS (by rfl) (by rfl) (by rfl) ?_; clear hS; intro w hS; try dsimp only at hS) | (refine pN_nz hS ?_; clear hS; intro a w hS) | refine ⟨trivial, ?_⟩ | refine pN_via (by (intro K; simp (disch := omega) only [go_sem, pN_min, pN_max, w_u32, w_u64, Option.isNone_some, Option.isNone_none]; (try simp only [wrap_u32, wrap_u64]); rfl)) ?_ | refine pA_via (by (intro K; simp (disch := omega) only [go_sem, pN_min, pN_max, w_u32, w_u64, Option.isNone_some, Option.isNone_none]; (try simp only [wrap_u32, wrap_u64]); rfl)) ?_ | fail)
          exact hQ _ hS.to
      · repeat' (first | (refine pc_state_New (SNew_ok hS ?_); clear hS; intro w hS) | (refine pc_state_State_Next (Next_in (s := Z.St.new) hG hS Z.St.Right.new hy ?_); clear hS; intro w hS) | refine ⟨⟨run_la_at (n := 4) hS [.int .i64 y.Kind, bv y.Byte, .int .i64 y.Len, .int .i64 y.Dist] rfl rfl, trivial⟩, ?_⟩ | ((first | refine pN_eql_s ?_ ?_ | refine pN_neq_s ?_ ?_) <;> intro hc <;> try (exfalso; first | omega | exact hc rfl | exact hc (by assumption) | exact absurd hc (by assumption))) | refine pIf_f ?_ | refine pGd_go (by rfl) ?_ | refine pN_l hS (by first | rfl | assumption) ?_ | (refine pN_sa hS (by rfl) (by rfl) (by rfl) ?_; clear hS; intro w hS; try dsimp only at hS) | (refine pN_nz hS ?_; clear hS; intro a w hS) | refine ⟨trivial, ?_⟩ | refine pN_via (by (intro K; simp (disch := omega) only [go_sem, pN_min, pN_max, w_u32, w_u64, Option.isNone_some, Option.isNone_none]; (try simp only [wrap_u32, wrap_u64]); rfl)) ?_ | refine pA_via (by (intro K; simp (disch := omega) only [go_sem, pN_min, pN_max, w_u32, w_u64, Option.isNone_some, Option.isNone_none]; (try simp only [wrap_u32, wrap_u64]); rfl)) ?_ | fail)
        exact hQ _ hS.to
  · rw [if_pos (by omega)] at hQ
    repeat' (first | refine pL_la hS (by rfl) ?_ | (refine pDr_go hS ?_; clear hS; intro w hS) | (refine pN_bx hS (by rfl) ?_; clear hS; intro a w hS) | fail)
    refine ⟨?_, ?_⟩
    · repeat' (first | (refine pc_state_New (SNew_ok hS ?_); clear hS; intro w hS) | refine ⟨⟨run_la_at (n := 4) hS [.int .i64 y.Kind, bv y.Byte, .int .i64 y.Len, .int .i64 y.Dist] rfl rfl, trivial⟩, ?_⟩ | fail)
      refine ⟨?_, ?_⟩
      all_goals
        repeat' (first | (refine pc_state_State_Next (Next_no (s := Z.St.new) hS Z.St.Right.new hy ?_); clear hS; intro w hS) | refine ⟨⟨run_la_at (n := 4) hS [.int .i64 y.Kind, bv y.Byte, .int .i64 y.Len, .int .i64 y.Dist] rfl rfl, trivial⟩, ?_⟩ | (refine pN_neq_s ?_ ?_ <;> intro hc <;> try (exfalso; first | omega | exact hc rfl | exact hc (by assumption) | exact absurd hc (by assumption))) | refine pIf_t ?_ | (refine pN_sa hS (by rfl) (by rfl) (by rfl) ?_; clear hS; intro w hS; try dsimp only at hS) | (refine pN_nz hS ?_; clear hS; intro a w hS) | refine ⟨trivial, ?_⟩ | refine pA_via (by (intro K; simp (disch := omega) only [go_sem, pN_min, pN_max, w_u32, w_u64, Option.isNone_some, Option.isNone_none]; (try simp only [wrap_u32, wrap_u64]); rfl)) ?_ | fail)
        exact hQ _ hS.to
    · repeat' (first | (refine pc_state_New (SNew_ok hS ?_); clear hS; intro w hS) | (refine pc_state_State_Next (Next_no (s := Z.St.new) hS Z.St.Right.new hy ?_); clear hS; intro w hS) | refine ⟨⟨run_la_at (n := 4) hS [.int .i64 y.Kind, bv y.Byte, .int .i64 y.Len, .int .i64 y.Dist] rfl rfl, trivial⟩, ?_⟩ | (refine pN_neq_s ?_ ?_ <;> intro hc <;> try (exfalso; first | omega | exact hc rfl | exact hc (by assumption) | exact absurd hc (by assumption))) | refine pIf_t ?_ | (refine pN_sa hS (by rfl) (by rfl) (by rfl) ?_; clear hS; intro w hS; try dsimp only at hS) | (refine pN_nz hS ?_; clear hS; intro a w hS) | refine ⟨trivial, ?_⟩ | refine pA_via (by (intro K; simp (disch := omega) only [go_sem, pN_min, pN_max, w_u32, w_u64, Option.isNone_some, Option.isNone_none]; (try simp only [wrap_u32, wrap_u64]); rfl)) ?_ | fail)
      exact hQ _ hS.to
end

end Go.Proofs.YtbgnnjfpiblkmaaGreatDoor

namespace Go.Proofs.YtbgnnjfpiblkmaaGreatDoor
open Go
set_option linter.unusedSimpArgs false
set_option linter.unnecessarySimpa false
set_option linter.unusedSectionVars false
set_option linter.unusedVariables false
namespace Z
theorem loop_fin {p : Pr} {n : Int} : ∀ (k : Nat) {s t : LS}, loopD p n k s = some t → t.x.size = s.x.size ∧ t.x.all.length + s.out.length = s.x.all.length + t.out.length ∧ ((s.out.length : Int) ≤ n → (t.out.length : Int) ≤ n)
  | 0, s, t, h => by
    rw [loopD] at h
    split at h
    · cases h
    · cases h; exact ⟨rfl, rfl, fun h => h⟩
  | k + 1, s, t, h => by
    rw [loopD] at h
    split at h
    · split at h
      · cases h
      · rename_i u hu
        have hl := LS.step_len hu
        obtain ⟨h1, h2, h3⟩ := loop_fin k h
        exact ⟨h1.trans hl.2.2.2.2.1, by omega, fun _ => h3 hl.2.1⟩
    · cases h; exact ⟨rfl, rfl, fun h => h⟩
end Z
attribute [local irreducible] oMv oV oU oCall oCallV oBi oBin oUn oLoad oStore oNil oFld oField oIdx oIndex oPick oAlloc oBox oBuild oBs oConv oMk oSl oExt oFn oIface oMap oLook oMapUp oRange oNext oEntry oInv oAssert oPanic oRes pN pA pL pDr pIf gA pGd

section
variable {E w W : World} {M N : List HA} {Q : Value → World → Prop} {b : Nat}

theorem newReader_ok {s0 : Sl} {l : List UInt8} (hS : Sat E w M) [hr : Rds cd_uint8 M s0 l] (hb : l.length ≤ 225000000000000) (dec : Nat)
    (hok : ∀ d r dd w, D.start l = .ok d () → Sat E w (cel r ⟨233, rdCells dec dd false⟩ :: Dec dd d :: M) → Q (pz r) w)
    (hno : ∀ e w, D.start l = .no e → Sat E w M → Q (.pointer none) w) :
    Calls Tryz.prog 133 #[pz dec, .slice s0.a l.length s0.c] w (retP Q) := by
  refine lzdec_newReader.calls ?_
  unfold lzdec_newReader.F
  cases hst : D.start l with
  | no e =>
    have hne : e ≠ 0 := by
      unfold D.start at hst
      split at hst
      · cases hst; decide
      · split at hst
        · cases hst; decide
        · cases hst
    repeat' (first | (refine pc_rcdec_New (DNew_no hS hb hst ?_); clear hS; intro w hS) | (refine pN_neq_s ?_ ?_ <;> intro hc <;> try (exfalso; first | omega | exact hc rfl | exact hc (by assumption) | exact absurd hc (by assumption))) | refine pIf_t ?_ | refine pN_via (by (intro K; simp (disch := omega) only [go_sem, pN_min, pN_max, w_u32, w_u64, Option.isNone_some, Option.isNone_none]; (try simp only [wrap_u32, wrap_u64]); rfl)) ?_ | fail)
    exact hno e _ hst hS.to
  | ok d u =>
    repeat' (first | (refine pc_rcdec_New (DNew_in hS hb hst ?_); clear hS; intro dd w hS) | (refine pN_neq_s ?_ ?_ <;> intro hc <;> try (exfalso; first | omega | exact hc rfl | exact hc (by assumption) | exact absurd hc (by assumption))) | refine pIf_f ?_ | (refine pN_bx hS (by rfl) ?_; clear hS; intro a w hS) | refine pN_via (by (intro K; simp (disch := omega) only [go_sem, pN_min, pN_max, w_u32, w_u64, Option.isNone_some, Option.isNone_none]; (try simp only [wrap_u32, wrap_u64]); rfl)) ?_ | fail)
    exact hok d _ dd _ hst hS.to

set_option maxHeartbeats 4000000 in
theorem all_ok {s0 : Sl} {l : List UInt8} {e : Z.DZ} {t wd : Nat} {q : Nat → Nat} {n : Int} (hG : Glo W) (he : e.Ok)
    (hS : Sat E w (cel b ⟨171, dcCells t wd false⟩ :: cel t ⟨141, tbCells e.p e.st q⟩ :: Win wd e.x :: tabs q e.T :: M)) [h : Has (old W) M N] [hr : Rds cd_uint8 M s0 l] (hb : l.length ≤ 225000000000000)
    (n0 : 1 ≤ n) (n1 : n ≤ 2097152) (hx : e.x.all.length + n.toNat + 273 ≤ 4611686018427387904)
    (hok : ∀ d gs sl so w, D.start l = .ok d () → Z.loopD e.p n n.toNat (e.ls d) = some gs → gs.Ok e.p → Sat E w (rows cd_api_Symbol sl gs.l :: rows cd_uint8 so gs.out :: cel b ⟨171, dcCells t wd false⟩ :: cel t ⟨141, tbCells e.p gs.st q⟩ :: Win wd gs.x :: tabs q gs.z.T :: M) →
      Q (.tuple #[.slice sl.a gs.l.length sl.c, .slice so.a gs.out.length so.c, .bool (decide (gs.z.d.k = gs.z.d.b.length ∧ gs.z.d.C = 0))]) w)
    (hno : ∀ (f : Z.DZ) w, e.take l n = none → f.Ok → f.p = e.p → f.x.size = e.x.size → f.x.all.length ≤ e.x.all.length + n.toNat → Sat E w (cel b ⟨171, dcCells t wd false⟩ :: cel t ⟨141, tbCells f.p f.st q⟩ :: Win wd f.x :: tabs q f.T :: M) →
      Q (.tuple #[.slice none 0 0, .slice none 0 0, .bool false]) w) :
    Calls Tryz.prog 91 #[pz b, .slice s0.a l.length s0.c, .int .i64 n] w (retP Q) := by
  refine lzdec_Decoder_all.calls ?_
  unfold lzdec_Decoder_all.F
  refine pc_lzdec_newReader (newReader_ok hS hb b (fun d r dd w hst hS => ?_) fun e' w hst hS => ?_)
  rotate_left 1
  · repeat' (first | refine pIf_t ?_ | refine pN_via (by (intro K; simp (disch := omega) only [go_sem, pN_min, pN_max, w_u32, w_u64, Option.isNone_some, Option.isNone_none]; (try simp only [wrap_u32, wrap_u64]); rfl)) ?_ | fail)
    exact hno e _ (by unfold Z.DZ.take; rw [hst]) he rfl rfl (Nat.le_add_right _ _) hS
  have hso := D.start_ok hst
  have hS : Sat E w (Dec dd d :: tabs q e.T :: cel r ⟨233, rdCells b dd false⟩ :: cel b ⟨171, dcCells t wd false⟩ :: cel t ⟨141, tbCells e.p e.st q⟩ :: Win wd e.x :: M) := hS.to
  have hS := Rsd.shut (p := e.p) (B := l) (y := ⟨d, e.T⟩) (z := some ⟨d, e.T⟩) hS ⟨hso.1, he.T⟩ hso.2.1 (fun _ h => by cases h; rfl)
  have hS : Sat E w (rows cd_api_Symbol ⟨none, 0⟩ [] :: _) := hS.nil 48 4
  have hS : Sat E w (rows cd_uint8 ⟨none, 0⟩ [] :: _) := hS.nil 5 1
  have hr1 : Rds cd_uint8 M s0 l := hr
  repeat' (first | refine pIf_f ?_ | refine pN_via (by (intro K; simp (disch := omega) only [go_sem, pN_min, pN_max, w_u32, w_u64, Option.isNone_some, Option.isNone_none]; (try simp only [wrap_u32, wrap_u64]); rfl)) ?_ | fail)
  have hS0 : Sat E _ (cel r ⟨233, rdCells b dd false⟩ :: Rsd e.p l dd q (some ⟨d, e.T⟩) :: cel b ⟨171, dcCells t wd false⟩ :: cel t ⟨141, tbCells e.p e.st q⟩ :: Win wd e.x :: rows cd_api_Symbol ⟨none, 0⟩ [] :: rows cd_uint8 ⟨none, 0⟩ [] :: M) := hS.to
  refine ⟨fun v1 v2 w => ∃ (f : Nat) (gs : Z.LS) (sl so : Sl), v1 = .slice sl.a gs.l.length sl.c ∧ v2 = .slice so.a gs.out.length so.c ∧ gs.Ok e.p ∧ gs.z.d.b = l ∧ gs.x.size = e.x.size ∧ gs.x.all.length = e.x.all.length + gs.out.length ∧ (gs.out.length : Int) ≤ n ∧ gs.l.length ≤ gs.out.length ∧ n - gs.out.length ≤ f ∧ Z.loopD e.p n f gs = Z.loopD e.p n n.toNat (e.ls d) ∧
    Sat E w (cel r ⟨233, rdCells b dd false⟩ :: Rsd e.p l dd q (some gs.z) :: cel b ⟨171, dcCells t wd false⟩ :: cel t ⟨141, tbCells e.p gs.st q⟩ :: Win wd gs.x :: rows cd_api_Symbol sl gs.l :: rows cd_uint8 so gs.out :: M),
    fun _ v _ => match v with | .slice _ k _ => n.toNat - k | _ => 0, ⟨n.toNat, e.ls d, ⟨none, 0⟩, ⟨none, 0⟩, rfl, rfl, ⟨he.st, ⟨hso.1, he.T⟩⟩, hso.2.1, rfl, rfl, by show ((0 : Nat) : Int) ≤ n; omega, Nat.le_refl _, by show n - ((0 : Nat) : Int) ≤ _; omega, rfl, hS0⟩, ?_⟩
  clear hS hS0
  rintro _ _ _ w ⟨f, gs, sl, so, rfl, rfl, hs, hsb, hsz, hsx, hsn, hsl, hf, hlp, hS⟩
  have hx2 : gs.x.all.length + 273 ≤ 4611686018427387904 := by omega
  by_cases hlt : (gs.out.length : Int) < n
  · obtain ⟨f, rfl⟩ : ∃ k, f = k + 1 := ⟨f - 1, by omega⟩
    rw [Z.loopD_go hlt] at hlp
    repeat' (first | (refine pN_lss_s ?_ ?_ <;> intro hc <;> try (exfalso; omega)) | refine pIf_t ?_ | refine pN_via (by (intro K; simp (disch := omega) only [go_sem, pN_min, pN_max, w_u32, w_u64, Option.isNone_some, Option.isNone_none]; (try simp only [wrap_u32, wrap_u64]); rfl)) ?_ | fail)
    refine pc_lzdec_reader_symbol (rsymbol_ok (z := some gs.z) he.p hs.st hb (by omega) (hS.fd5 (cel r) (Rsd e.p l dd q) (cel b) (cel t) (Win wd)) fun y v w hgot hS => ?_)
    have fin : ∀ (w : World), e.take l n = none → (∃ z : Option Z.RS, Sat E w (Rsd e.p l dd q z :: cel b ⟨171, dcCells t wd false⟩ :: cel t ⟨141, tbCells e.p gs.st q⟩ :: Win wd gs.x :: M)) → Q (.tuple #[.slice none 0 0, .slice none 0 0, .bool false]) w := by
      rintro w ht ⟨z, hS⟩
      obtain ⟨y, hy, _, _, hS⟩ := Rsd.opn hS
      exact hno ⟨e.p, gs.st, y.T, gs.x⟩ w ht ⟨he.p, hs.st, hy.T⟩ rfl hsz (by simp only; omega) hS.to
    have tkn : Z.loopD e.p n n.toNat (e.ls d) = none → e.take l n = none := fun h => by unfold Z.DZ.take; rw [hst]; simp only [h]
    cases y with
    | none =>
      rw [Z.stepD_none1 hgot] at hlp
      simp only [Option.isNone_none] at hS
      repeat' (first | refine pIf_t ?_ | refine pGd_no (by rfl) ?_ | refine pN_l hS (by first | rfl | assumption) ?_ | (refine pN_sa hS (by rfl) (by rfl) (by rfl) ?_; clear hS; intro w hS; try dsimp only at hS) | (refine pN_nz hS ?_; clear hS; intro a w hS) | refine pN_via (by (intro K; simp (disch := omega) only [go_sem, pN_min, pN_max, w_u32, w_u64, Option.isNone_some, Option.isNone_none]; (try simp only [wrap_u32, wrap_u64]); rfl)) ?_ | fail)
      exact fin _ (tkn hlp.symm) ⟨none, hS.to⟩
    | some z1 =>
      have hgot : (Z.symRd e.p gs.st gs.x).run gs.z = some (z1, v) := hgot
      have hz1 := Z.Rd.run_ok (Z.symRd_ok he.p hs.st gs.x) hs.z hgot
      simp only [Option.isNone_some] at hS
      by_cases c1 : Z.size v < 1
      · have hey : Z.errY v ≠ 0 := fun h => by have := Z.size_bd h; omega
        rw [Z.stepD_none2 hgot (fun h => hey (Z.may_err h.1))] at hlp
        repeat' (first | (refine pc_symbol_Size (SySize_ok hG hS v ?_); clear hS; intro w hS) | (refine pN_lss_s ?_ ?_ <;> intro hc <;> try (exfalso; omega)) | refine pIf_t ?_ | refine pGd_go (by rfl) ?_ | refine pGd_no (by rfl) ?_ | refine pN_l hS (by first | rfl | assumption) ?_ | refine pN_la hS (by rfl) ?_ | (refine pN_sa hS (by rfl) (by rfl) (by rfl) ?_; clear hS; intro w hS; try dsimp only at hS) | (refine pN_nz hS ?_; clear hS; intro a w hS) | refine pN_via (by (intro K; simp (disch := omega) only [go_sem, pN_min, pN_max, w_u32, w_u64, Option.isNone_some, Option.isNone_none]; (try simp only [wrap_u32, wrap_u64]); rfl)) ?_ | fail)
        exact fin _ (tkn hlp.symm) ⟨some z1, hS.to⟩
      by_cases c2 : n - gs.out.length < Z.size v
      · rw [Z.stepD_none2 hgot (fun h => by omega)] at hlp
        repeat' (first | (refine pc_symbol_Size (SySize_ok hG hS v ?_); clear hS; intro w hS) | ((first | refine pN_lss_s ?_ ?_ | refine pN_gtr_s ?_ ?_) <;> intro hc <;> try (exfalso; omega)) | refine pIf_t ?_ | refine pGd_go (by rfl) ?_ | refine pN_l hS (by first | rfl | assumption) ?_ | refine pN_la hS (by rfl) ?_ | (refine pN_sa hS (by rfl) (by rfl) (by rfl) ?_; clear hS; intro w hS; try dsimp only at hS) | (refine pN_nz hS ?_; clear hS; intro a w hS) | refine pN_via (by (intro K; simp (disch := omega) only [go_sem, pN_min, pN_max, w_u32, w_u64, Option.isNone_some, Option.isNone_none]; (try simp only [wrap_u32, wrap_u64]); rfl)) ?_ | fail)
        exact fin _ (tkn hlp.symm) ⟨some z1, hS.to⟩
      by_cases c3 : Z.may gs.x gs.st v = 0
      rotate_left 1
      · rw [Z.stepD_none2 hgot (fun h => c3 h.1)] at hlp
        repeat' (first | (refine pc_symbol_Size (SySize_ok hG hS v ?_); clear hS; intro w hS) | refine pL_la_at (n := 5) hS gs.st.cells rfl rfl ?_ | ((first | refine pN_lss_s ?_ ?_ | refine pN_gtr_s ?_ ?_) <;> intro hc <;> try (exfalso; omega)) | refine pIf_f ?_ | refine pGd_go (by rfl) ?_ | refine pN_l hS (by first | rfl | assumption) ?_ | refine pL_l hS (by first | rfl | assumption) ?_ | refine pN_la hS (by rfl) ?_ | refine pL_la hS (by rfl) ?_ | (refine pN_sa hS (by rfl) (by rfl) (by rfl) ?_; clear hS; intro w hS; try dsimp only at hS) | (refine pDr_go hS ?_; clear hS; intro w hS) | (refine pN_nz hS ?_; clear hS; intro a w hS) | refine pN_via (by (intro K; simp (disch := omega) only [go_sem, pN_min, pN_max, w_u32, w_u64, Option.isNone_some, Option.isNone_none]; (try simp only [wrap_u32, wrap_u64]); rfl)) ?_ | refine pA_via (by (intro K; simp (disch := omega) only [go_sem, pN_min, pN_max, w_u32, w_u64, Option.isNone_some, Option.isNone_none]; (try simp only [wrap_u32, wrap_u64]); rfl)) ?_ | fail)
        refine ⟨?_, ?_⟩
        all_goals
          repeat' (first | refine ⟨⟨run_la_at hS _ (by rfl) (by rfl), run_la_at (n := 5) hS gs.st.cells rfl rfl, run_l hS (by rfl), run_l hS (by rfl), trivial⟩, ?_⟩ | (refine pc_symbol_Apply (Apply_no (y := v) hG (hS.fd (Win wd)) hs.st c3 ?_); clear hS; intro w hS) | (refine pN_neq_s ?_ ?_ <;> intro hc <;> try (exfalso; first | omega | exact hc rfl | exact hc (by assumption) | exact absurd hc (by assumption))) | refine pIf_t ?_ | (refine pN_sa hS (by rfl) (by rfl) (by rfl) ?_; clear hS; intro w hS; try dsimp only at hS) | (refine pN_nz hS ?_; clear hS; intro a w hS) | refine ⟨trivial, ?_⟩ | refine pA_via (by (intro K; simp (disch := omega) only [go_sem, pN_min, pN_max, w_u32, w_u64, Option.isNone_some, Option.isNone_none]; (try simp only [wrap_u32, wrap_u64]); rfl)) ?_ | fail)
          exact fin _ (tkn hlp.symm) ⟨some z1, hS.to⟩
      rw [Z.stepD_go hgot c3 (by omega)] at hlp
      have hey := Z.may_err c3
      have hsb2 := Z.size_bd hey
      have hml := Z.made_len (x := gs.x) (s := gs.st) hey
      have hss := hs.st.next hey
      have fwd : ∀ (sl so : Sl) (w : World), Sat E w (cel r ⟨233, rdCells b dd false⟩ :: Rsd e.p l dd q (some z1) :: cel b ⟨171, dcCells t wd false⟩ :: cel t ⟨141, tbCells e.p (gs.st.next v) q⟩ :: Win wd (gs.x.put (Z.made gs.x gs.st v)) :: rows cd_api_Symbol sl (gs.l ++ [v]) :: rows cd_uint8 so (gs.out ++ Z.made gs.x gs.st v) :: M) →
          (∃ (f : Nat) (s' : Z.LS) (sl' so' : Sl), Value.slice sl.a (gs.l ++ [v]).length sl.c = .slice sl'.a s'.l.length sl'.c ∧ Value.slice so.a (gs.out ++ Z.made gs.x gs.st v).length so.c = .slice so'.a s'.out.length so'.c ∧ s'.Ok e.p ∧ s'.z.d.b = l ∧ s'.x.size = e.x.size ∧ s'.x.all.length = e.x.all.length + s'.out.length ∧ (s'.out.length : Int) ≤ n ∧ s'.l.length ≤ s'.out.length ∧ n - s'.out.length ≤ f ∧ Z.loopD e.p n f s' = Z.loopD e.p n n.toNat (e.ls d) ∧
            Sat E w (cel r ⟨233, rdCells b dd false⟩ :: Rsd e.p l dd q (some s'.z) :: cel b ⟨171, dcCells t wd false⟩ :: cel t ⟨141, tbCells e.p s'.st q⟩ :: Win wd s'.x :: rows cd_api_Symbol sl' s'.l :: rows cd_uint8 so' s'.out :: M)) := fun sl so w hS =>
        ⟨f, gs.step z1 v, sl, so, rfl, rfl, ⟨hss, hz1.1⟩, hz1.2.trans hsb, hsz, by simp only [Z.LS.step, Z.W.put, List.length_append]; omega, by simp only [Z.LS.step, List.length_append]; omega, by simp only [Z.LS.step, List.length_append, List.length_cons, List.length_nil]; omega, by simp only [Z.LS.step, List.length_append]; omega, hlp, hS⟩
      clear fin tkn hlp
      repeat' (first | (refine pc_symbol_Size (SySize_ok hG hS v ?_); clear hS; intro w hS) | refine pL_la_at (n := 5) hS gs.st.cells rfl rfl ?_ | ((first | refine pN_lss_s ?_ ?_ | refine pN_gtr_s ?_ ?_) <;> intro hc <;> try (exfalso; omega)) | refine pIf_f ?_ | refine pGd_go (by rfl) ?_ | refine pN_l hS (by first | rfl | assumption) ?_ | refine pL_l hS (by first | rfl | assumption) ?_ | refine pN_la hS (by rfl) ?_ | refine pL_la hS (by rfl) ?_ | (refine pN_sa hS (by rfl) (by rfl) (by rfl) ?_; clear hS; intro w hS; try dsimp only at hS) | (refine pDr_go hS ?_; clear hS; intro w hS) | (refine pN_nz hS ?_; clear hS; intro a w hS) | refine pN_via (by (intro K; simp (disch := omega) only [go_sem, pN_min, pN_max, w_u32, w_u64, Option.isNone_some, Option.isNone_none]; (try simp only [wrap_u32, wrap_u64]); rfl)) ?_ | refine pA_via (by (intro K; simp (disch := omega) only [go_sem, pN_min, pN_max, w_u32, w_u64, Option.isNone_some, Option.isNone_none]; (try simp only [wrap_u32, wrap_u64]); rfl)) ?_ | fail)
      refine ⟨?_, ?_⟩
      all_goals
        repeat' (first | refine ⟨⟨run_la_at hS _ (by rfl) (by rfl), run_la_at (n := 5) hS gs.st.cells rfl rfl, run_l hS (by rfl), run_l hS (by rfl), trivial⟩, ?_⟩ | (refine pc_symbol_Apply (Apply_in (y := v) hG (hS.fd (Win wd)) hs.st c3 hx2 ?_); clear hS; intro s' w hS) | refine pL_la_at (n := 5) hS (gs.st.next v).cells rfl rfl ?_ | (refine pN_sa_at (us := (gs.st.next v).cells) hS rfl (Nat.le_of_ble_eq_true rfl) rfl ?_; clear hS; intro w hS) | (refine pN_neq_s ?_ ?_ <;> intro hc <;> try (exfalso; first | omega | exact hc rfl | exact hc (by assumption) | exact absurd hc (by assumption))) | refine pIf_f ?_ | refine pL_l hS (by first | rfl | assumption) ?_ | refine pN_la hS (by rfl) ?_ | (refine pDr_go hS ?_; clear hS; intro w hS) | (refine pN_nz hS ?_; clear hS; intro a w hS) | refine ⟨trivial, ?_⟩ | (refine pN_b1 hS (by rfl) (by decide) ?_; clear hS; intro s w hS) | (refine pN_app hS (by first | rfl | omega | simpa only [go_sem] using True.intro | (simp only [go_sem]; omega)) (by first | rfl | omega | simpa only [go_sem] using True.intro | (simp only [go_sem]; omega)) (by first | omega | (simp only [go_sem]; omega)) ?_; clear hS; intro s w hS) | refine pA_via (by (intro K; simp (disch := omega) only [go_sem, pN_min, pN_max, w_u32, w_u64, Option.isNone_some, Option.isNone_none]; (try simp only [wrap_u32, wrap_u64]); rfl)) ?_ | fail)
        have hS := cel_conv (o' := ⟨141, tbCells e.p (gs.st.next v) q⟩) rfl (hS.fd (cel t))
        skip
        exact ⟨fwd _ _ _ hS.to, by simp only [List.length_append]; omega⟩
  · have hend := Z.loopD_end (p := e.p) (f := f) hlt
    obtain ⟨y, hy, hyb, hys, hS⟩ := Rsd.opn (hS.fd (Rsd e.p l dd q))
    obtain rfl := hys _ rfl
    repeat' (first | (refine pc_rcdec_Decoder_Done (Done_ok (hS.fd (Dec dd)) ?_); clear hS; intro w hS) | (refine pN_lss_s ?_ ?_ <;> intro hc <;> try (exfalso; omega)) | refine pIf_f ?_ | refine pN_l hS (by first | rfl | assumption) ?_ | refine pN_via (by (intro K; simp (disch := omega) only [go_sem, pN_min, pN_max, w_u32, w_u64, Option.isNone_some, Option.isNone_none]; (try simp only [wrap_u32, wrap_u64]); rfl)) ?_ | fail)
    exact hok d gs sl so _ hst (hlp.symm.trans hend) hs hS.to

theorem nil_rows {L : List HA} (hS : Sat E w L) : Sat E w (rows cd_api_Symbol ⟨none, 0⟩ [] :: rows cd_uint8 ⟨none, 0⟩ [] :: L) := by
  have hS : Sat E w (rows cd_uint8 ⟨none, 0⟩ [] :: _) := hS.nil 5 1
  exact hS.nil 48 4

set_option maxHeartbeats 1000000 in
theorem DcTake_ok {s0 : Sl} {l : List UInt8} {d : Z.DS} (hG : Glo W) (hS : Sat E w (LDec b d :: M)) [h : Has (old W) M N] [hr : Rds cd_uint8 M s0 l] (hb : l.length ≤ 225000000000000) (n : Int) (hx : d.len + 2097152 + 273 ≤ 4611686018427387904)
    (hQ : ∀ sl so w, Sat E w (rows cd_api_Symbol sl (d.take l n).l :: rows cd_uint8 so (d.take l n).out :: LDec b (d.take l n).d :: M) → Q (.tuple #[.slice sl.a (d.take l n).l.length sl.c, .slice so.a (d.take l n).out.length so.c, .int .i64 (d.take l n).e]) w) :
    Calls Tryz.prog 39 #[pz b, .slice s0.a l.length s0.c, .int .i64 n] w (retP Q) := by
  refine lzdec_Decoder_Take.calls ?_
  unfold lzdec_Decoder_Take.F
  by_cases hn : 1 ≤ n ∧ n ≤ 2097152
  rotate_left 1
  · have e : d.take l n = ⟨d, 7, [], []⟩ := by unfold Z.DS.take; rw [if_neg hn]
    rw [e] at hQ
    by_cases h1 : n < 1
    · repeat' (first | (refine pN_lss_s ?_ ?_ <;> intro hc <;> try (exfalso; omega)) | refine pIf_t ?_ | refine pGd_no (by rfl) ?_ | refine pN_via (by (intro K; simp (disch := omega) only [go_sem, pN_min, pN_max, w_u32, w_u64, Option.isNone_some, Option.isNone_none]; (try simp only [wrap_u32, wrap_u64]); rfl)) ?_ | fail)
      exact hQ ⟨none, 0⟩ ⟨none, 0⟩ _ (nil_rows hS)
    · repeat' (first | ((first | refine pN_lss_s ?_ ?_ | refine pN_gtr_s ?_ ?_) <;> intro hc <;> try (exfalso; omega)) | refine pIf_t ?_ | refine pGd_go (by rfl) ?_ | refine pN_via (by (intro K; simp (disch := omega) only [go_sem, pN_min, pN_max, w_u32, w_u64, Option.isNone_some, Option.isNone_none]; (try simp only [wrap_u32, wrap_u64]); rfl)) ?_ | fail)
      exact hQ ⟨none, 0⟩ ⟨none, 0⟩ _ (nil_rows hS)
  obtain ⟨n0, n1⟩ := hn
  obtain ⟨t, wd, q, e, he, hf, hS⟩ := LDec.opn hS
  cases d with
  | sp p z m =>
    have e2 : (Z.DS.sp p z m).take l n = ⟨.sp p z m, 2, [], []⟩ := by unfold Z.DS.take; rw [if_pos ⟨n0, n1⟩]
    rw [e2] at hQ
    have hS : Sat E w (cel b ⟨171, dcCells t wd true⟩ :: cel t ⟨141, tbCells e.p e.st q⟩ :: Win wd e.x :: tabs q e.T :: M) := hS
    repeat' (first | ((first | refine pN_lss_s ?_ ?_ | refine pN_gtr_s ?_ ?_) <;> intro hc <;> try (exfalso; omega)) | refine pIf_t ?_ | refine pIf_f ?_ | refine pGd_go (by rfl) ?_ | refine pN_l hS (by first | rfl | assumption) ?_ | refine pN_via (by (intro K; simp (disch := omega) only [go_sem, pN_min, pN_max, w_u32, w_u64, Option.isNone_some, Option.isNone_none]; (try simp only [wrap_u32, wrap_u64]); rfl)) ?_ | fail)
    exact hQ ⟨none, 0⟩ ⟨none, 0⟩ _ (nil_rows (LDec.shut (d := .sp p z m) hS he hf))
  | ok e' =>
    cases hf
    have hS : Sat E w (cel b ⟨171, dcCells t wd false⟩ :: cel t ⟨141, tbCells e.p e.st q⟩ :: Win wd e.x :: tabs q e.T :: M) := hS
    have hx : e.x.all.length + 2097152 + 273 ≤ 4611686018427387904 := hx
    repeat' (first | ((first | refine pN_lss_s ?_ ?_ | refine pN_gtr_s ?_ ?_) <;> intro hc <;> try (exfalso; omega)) | refine pIf_f ?_ | refine pGd_go (by rfl) ?_ | refine pN_l hS (by first | rfl | assumption) ?_ | refine pN_via (by (intro K; simp (disch := omega) only [go_sem, pN_min, pN_max, w_u32, w_u64, Option.isNone_some, Option.isNone_none]; (try simp only [wrap_u32, wrap_u64]); rfl)) ?_ | fail)
    refine pc_lzdec_Decoder_all (all_ok hG he hS hb n0 n1 (by omega) (fun dd gs sl so w hst hlp hgs hS => ?_) fun f w htk hf1 hf2 hf3 hf4 hS => ?_)
    · by_cases hc : gs.z.d.k = gs.z.d.b.length ∧ gs.z.d.C = 0
      · have htk : e.take l n = some (⟨e.p, gs.st, gs.z.T, gs.x⟩, gs.l, gs.out) := by
          unfold Z.DZ.take
          rw [hst]
          simp only [hlp]
          rw [if_pos hc]
        have e2 : (Z.DS.ok e).take l n = ⟨.ok ⟨e.p, gs.st, gs.z.T, gs.x⟩, 0, gs.l, gs.out⟩ := by
          unfold Z.DS.take
          rw [if_pos ⟨n0, n1⟩]
          simp only [htk]
        rw [e2] at hQ
        rw [decide_eq_true hc]
        repeat' (first | refine pIf_f ?_ | refine pN_via (by (intro K; simp (disch := omega) only [go_sem, pN_min, pN_max, w_u32, w_u64, Option.isNone_some, Option.isNone_none]; (try simp only [wrap_u32, wrap_u64]); rfl)) ?_ | fail)
        refine hQ sl so _ ?_
        have hS := LDec.shut (b := b) (d := .ok ⟨e.p, gs.st, gs.z.T, gs.x⟩) (e := ⟨e.p, gs.st, gs.z.T, gs.x⟩) (t := t) (wd := wd) (q := q) (M := rows cd_api_Symbol sl gs.l :: rows cd_uint8 so gs.out :: M) (by exact hS.fd4 (cel b) (cel t) (Win wd) (tabs q)) ⟨he.p, hgs.st, hgs.z.T⟩ rfl
        exact hS.to
      · have htk : e.take l n = none := by
          unfold Z.DZ.take
          rw [hst]
          simp only [hlp]
          rw [if_neg hc]
        have e2 : (Z.DS.ok e).take l n = ⟨.sp e.p e.x.size (e.x.all.length + n.toNat), 2, [], []⟩ := by
          unfold Z.DS.take
          rw [if_pos ⟨n0, n1⟩]
          simp only [htk]
        rw [e2] at hQ
        rw [decide_eq_false hc]
        have hfin := Z.loop_fin (s := e.ls dd) n.toNat hlp
        repeat' (first | refine pIf_t ?_ | (refine pN_s hS (by first | exact Nat.le_of_ble_eq_true rfl | assumption) (by rfl) ?_; clear hS; intro w hS; try simp only [List.set_cons_zero, List.set_cons_succ] at hS) | refine pN_via (by (intro K; simp (disch := omega) only [go_sem, pN_min, pN_max, w_u32, w_u64, Option.isNone_some, Option.isNone_none]; (try simp only [wrap_u32, wrap_u64]); rfl)) ?_ | fail)
        refine hQ ⟨none, 0⟩ ⟨none, 0⟩ _ (nil_rows ?_)
        refine LDec.shut (b := b) (d := .sp e.p e.x.size (e.x.all.length + n.toNat)) (e := ⟨e.p, gs.st, gs.z.T, gs.x⟩) (t := t) (wd := wd) (q := q) ?_ ⟨he.p, hgs.st, hgs.z.T⟩ ⟨rfl, hfin.1, ?_⟩
        · have hS4 : Sat E _ (cel b ⟨171, dcCells t wd true⟩ :: cel t ⟨141, tbCells e.p gs.st q⟩ :: Win wd gs.x :: tabs q gs.z.T :: M) := hS.to
          exact hS4
        · have h1 := hfin.2.1
          have h2 := hfin.2.2 (by show ((0 : Nat) : Int) ≤ n; omega)
          have h3 : gs.x.all.length + 0 = e.x.all.length + gs.out.length := h1
          show gs.x.all.length ≤ _
          omega
    · have e2 : (Z.DS.ok e).take l n = ⟨.sp e.p e.x.size (e.x.all.length + n.toNat), 2, [], []⟩ := by
        unfold Z.DS.take
        rw [if_pos ⟨n0, n1⟩]
        simp only [htk]
      rw [e2] at hQ
      repeat' (first | refine pIf_t ?_ | (refine pN_s hS (by first | exact Nat.le_of_ble_eq_true rfl | assumption) (by rfl) ?_; clear hS; intro w hS; try simp only [List.set_cons_zero, List.set_cons_succ] at hS) | refine pN_via (by (intro K; simp (disch := omega) only [go_sem, pN_min, pN_max, w_u32, w_u64, Option.isNone_some, Option.isNone_none]; (try simp only [wrap_u32, wrap_u64]); rfl)) ?_ | fail)
      refine hQ ⟨none, 0⟩ ⟨none, 0⟩ _ (nil_rows ?_)
      refine LDec.shut (b := b) (d := .sp e.p e.x.size (e.x.all.length + n.toNat)) (e := f) (t := t) (wd := wd) (q := q) ?_ hf1 ⟨hf2, hf3, hf4⟩
      have hS4 : Sat E _ (cel b ⟨171, dcCells t wd true⟩ :: cel t ⟨141, tbCells f.p f.st q⟩ :: Win wd f.x :: tabs q f.T :: M) := hS.to
      exact hS4
end

end Go.Proofs.YtbgnnjfpiblkmaaGreatDoor

namespace Go.Proofs.YtbgnnjfpiblkmaaGreatDoor
open Go
set_option linter.unusedSimpArgs false
set_option linter.unnecessarySimpa false
set_option linter.unusedSectionVars false
set_option linter.unusedVariables false
namespace Z
def puts (e : EZ) (l : List Y) : EZ := l.foldl EZ.put e
theorem puts_snoc (e : EZ) (l : List Y) (y : Y) : puts e (l ++ [y]) = (puts e l).put y := by simp [puts]
set_option maxRecDepth 8000 in
theorem puts_bd {e : EZ} (h : e.Ok) (l : List Y) : (puts e l).Ok ∧ (puts e l).s.k ≤ e.s.k + 26 * l.length ∧ (puts e l).x.all.length ≤ e.x.all.length + 273 * l.length := by
  induction l using R.snoc_ind with
  | h0 => exact ⟨h, Nat.le_refl _, Nat.le_refl _⟩
  | h1 l y ih =>
    rw [puts_snoc]
    obtain ⟨h1, h2, h3⟩ := ih
    have h4 := h1.put y
    have h5 := EZ.put_len (e := puts e l) y
    rw [List.length_append, List.length_cons, List.length_nil]
    exact ⟨h4.1, by omega, by omega⟩
/-- Of some symbols those that are taken. -/
def kept (e : EZ) : List Y → List Y
  | [] => []
  | y :: ys => if e.may y = 0 then y :: kept (e.put1 y) ys else kept e ys
theorem puts_cons (e : EZ) (a : Y) (l : List Y) : puts e (a :: l) = puts (e.put a) l := rfl
theorem kept_snoc : ∀ (l : List Y) (e : EZ) (y : Y), kept e (l ++ [y]) = kept e l ++ (if (puts e l).may y = 0 then [y] else [])
  | [], e, y => rfl
  | a :: l, e, y => by
    rw [puts_cons]
    simp only [List.cons_append, kept]
    by_cases h : e.may a = 0
    · have hp : e.put a = e.put1 a := by rw [EZ.put, if_pos h]
      rw [if_pos h, if_pos h, hp, kept_snoc l (e.put1 a) y]
      rfl
    · have hp : e.put a = e := by rw [EZ.put, if_neg h]
      rw [if_neg h, if_neg h, hp, kept_snoc l e y]
theorem kept_ok : ∀ (l : List Y) (e : EZ), e.valid (kept e l) ∧ e.putV (kept e l) = puts e l
  | [], e => ⟨trivial, rfl⟩
  | a :: l, e => by
    simp only [kept, puts, List.foldl_cons]
    by_cases h : e.may a = 0
    · obtain ⟨h1, h2⟩ := kept_ok l (e.put1 a)
      have hp : e.put a = e.put1 a := by rw [EZ.put, if_pos h]
      rw [if_pos h, hp]
      exact ⟨⟨h, h1⟩, h2⟩
    · obtain ⟨h1, h2⟩ := kept_ok l e
      have hp : e.put a = e := by rw [EZ.put, if_neg h]
      rw [if_neg h, hp]
      exact ⟨h1, h2⟩
theorem kept_len : ∀ (l : List Y) (e : EZ), (kept e l).length ≤ l.length
  | [], e => Nat.le_refl _
  | a :: l, e => by
    simp only [kept]
    split
    · have := kept_len l (e.put1 a); simp only [List.length_cons]; omega
    · have := kept_len l e; simp only [List.length_cons]; omega
end Z

end Go.Proofs.YtbgnnjfpiblkmaaGreatDoor

namespace Go.Proofs.YtbgnnjfpiblkmaaGreatDoor
open Go
set_option linter.unusedSimpArgs false
set_option linter.unnecessarySimpa false
set_option linter.unusedSectionVars false
set_option linter.unusedVariables false

theorem laid_get12 {W : World} {l : List (String × DataW Unit)} {ps : List MemPlace} (hl : DataW.LaidVars Tryz.prog W l ps) {n : String} {g : Nat} (k : Int) (hm : (n, DataW.agg (((List.range 12).map fun i : Nat => Z.moved (i : Int) k).map fun z => .lit (.int .i64 z))) ∈ l)
    (hg : Tryz.prog.globalNamed n = some g) (ht : (Tryz.prog.globals[g]?).map (·.type) = some 234) (i : Nat) (hi : i < 12) : W.cell? ⟨g, i, none⟩ = some (.int .i64 (Z.moved i k)) :=
  laid_ints hl ((List.range 12).map fun i : Nat => Z.moved (i : Int) k) hm hg ht Tryz.underlying234 (by kernel_rfl) Tryz.underlying3 i (Z.moved i k) hi (by rw [List.getElem?_map, List.getElem?_range hi]; rfl)

theorem glo_of_laid {W : World} {l : List (String × DataW Unit)} (h : laidMetH Tryz.prog l W) (hp : (l.filter fun x => x.2.handleName?.isSome) = []) (m1 : ("pith/state.afterLit", Rows.laid_pith_state_afterLit) ∈ l) (m2 : ("pith/state.afterMatch", Rows.laid_pith_state_afterMatch) ∈ l)
    (m3 : ("pith/state.afterRep", Rows.laid_pith_state_afterRep) ∈ l) (m4 : ("pith/state.afterShort", Rows.laid_pith_state_afterShort) ∈ l) : Glo W := by
  unfold laidMetH at h
  rw [hp] at h
  obtain ⟨ps, hv, _⟩ := h
  exact ⟨laid_get12 hv 1 m1 (by kernel_rfl) (by kernel_rfl), laid_get12 hv 2 m2 (by kernel_rfl) (by kernel_rfl), laid_get12 hv 3 m3 (by kernel_rfl) (by kernel_rfl), laid_get12 hv 4 m4 (by kernel_rfl) (by kernel_rfl)⟩

instance : DecidableEq Z.Y := fun a b => decidable_of_iff (a.Kind = b.Kind ∧ a.Byte = b.Byte ∧ a.Len = b.Len ∧ a.Dist = b.Dist) ⟨fun h => by
  obtain ⟨a1, a2, a3, a4⟩ := a
  obtain ⟨b1, b2, b3, b4⟩ := b
  obtain ⟨h1, h2, h3, h4⟩ := h
  simp only at h1 h2 h3 h4
  rw [h1, h2, h3, h4], fun h => by rw [h]; exact ⟨rfl, rfl, rfl, rfl⟩⟩
abbrev symV (y : Z.Y) : Value := .agg #[.int .i64 y.Kind, bv y.Byte, .int .i64 y.Len, .int .i64 y.Dist]
theorem eqs_sym (y z : Z.Y) (w : World) : (Op.equalIn 10000 48 (symV y) (symV z)).run Tryz.prog w = .ok (decide (y = z)) w := by
  have u3 := Tryz.underlying3
  have a3 := Tryz.isAgg3
  have z3 := Tryz.sizeOf3
  have u5 := Tryz.underlying5
  have a5 := Tryz.isAgg5
  have z5 := Tryz.sizeOf5
  have hS : Tryz.prog.underlying 48 = some (.struct (Tryz.prog.fieldsOf 48)) := by kernel_rfl
  rw [show (10000 : Nat) = 9999 + 1 from rfl, run_equalIn_agg w 9999 48 _ _ hS (by kernel_rfl)]
  simp only [Program.fieldsOf, Tryz.underlying48]
  obtain ⟨a, b, c, d⟩ := y
  obtain ⟨a', b', c', d'⟩ := z
  unfold bv
  go_simp
  by_cases h2 : b = b'
  · subst h2
    by_cases h1 : a = a' <;> by_cases h3 : c = c' <;> by_cases h4 : d = d' <;> simp [h1, h3, h4]
  · have h5 : ¬ (b.toNat : Int) = b'.toNat := fun h => h2 (UInt8.toNat_inj.1 (by omega))
    by_cases h1 : a = a' <;> by_cases h3 : c = c' <;> by_cases h4 : d = d' <;> simp [h1, h2, h3, h4, h5]
section
variable {K : Value → World → Prop} {xo yo : Operand} {w : World} {y z : Z.Y}
theorem run_eql_sym : (oBin .eql 48 xo yo (symV y) (symV z)).run Tryz.prog w = .ok (.value (.bool (decide (y = z)))) w :=
  run_bin_of 48 xo yo (run_eqGuard_agg w _ _ _ _ _ _ (by kernel_rfl)) (by rw [run_eql_struct, eqs_sym]; rfl)
theorem pN_eqs (ht : y = z → K (.bool true) w) (hf : ¬ y = z → K (.bool false) w) : pN Tryz.prog (oBin .eql 48 xo yo (symV y) (symV z)) w K := by
  rw [pN_def, run_eql_sym, rN_value]
  by_cases h : y = z
  · rw [decide_eq_true h]; exact ht h
  · rw [decide_eq_false h]; exact hf h
end

namespace Z
theorem known15_p : (⟨3, 0, 2⟩ : Pr).Ok := by decide
theorem known15 : ((DZ.new ⟨3, 0, 2⟩ 4096).take (List.replicate 6 0) 1).map (fun r => (r.2.1, r.2.2)) = some ([⟨1, 0, 0, 0⟩], [0]) := by kernel_rfl
theorem fixed_take : ∃ d, (DS.ok (DZ.new ⟨3, 0, 2⟩ 4096)).take (List.replicate 6 0) 1 = ⟨d, 0, [⟨1, 0, 0, 0⟩], [0]⟩ := by
  have h := known15
  unfold DS.take
  rw [if_pos ⟨by decide, by decide⟩]
  simp only
  cases e : (DZ.new ⟨3, 0, 2⟩ 4096).take (List.replicate 6 0) 1 with
  | none => rw [e] at h; cases h
  | some r =>
    rw [e] at h
    obtain ⟨r0, r1, r2⟩ := r
    cases h
    exact ⟨.ok r0, rfl⟩
end Z
attribute [local irreducible] oMv oV oU oCall oCallV oBi oBin oUn oLoad oStore oNil oFld oField oIdx oIndex oPick oAlloc oBox oBuild oBs oConv oMk oSl oExt oFn oIface oMap oLook oMapUp oRange oNext oEntry oInv oAssert oPanic oRes pN pA pL pDr pIf gA pGd

section
variable {E w W : World} {M N : List HA} {Q : Value → World → Prop}

theorem sizes_nn (l : List Z.Y) : 0 ≤ Z.sizes l ∧ Z.sizes l ≤ 273 * l.length := by
  induction l with
  | nil => simp [Z.sizes]
  | cons y l ih =>
    have h : 0 ≤ Z.size y ∧ Z.size y ≤ 273 := by
      by_cases hy : Z.errY y = 0
      · have := Z.size_bd hy; omega
      · unfold Z.size; rw [if_pos hy]; omega
    rw [Z.sizes_cons, List.length_cons]
    omega
theorem size15_ok {s0 : Sl} {l : List Z.Y} (hG : Glo W) (hS : Sat E w M) [h : Has (old W) M N] [hr : Rds cd_api_Symbol M s0 l] (hl : l.length ≤ 4611686018427387904 / 273) (hQ : ∀ w, Sat E w M → Q (.int .i64 (Z.sizes l)) w) :
    Calls Tryz.prog 49 #[.slice s0.a l.length s0.c] w (retP Q) := by
  refine pithlaw15_size.calls ?_
  unfold pithlaw15_size.F
  refine ⟨fun n v w => ∃ i : Nat, n = .int .i64 (Z.sizes (l.take i)) ∧ v = .int .i64 i ∧ i ≤ l.length ∧ Sat E w M, fun _ v _ => l.length - (RowKit.intOf v).toNat, ⟨0, rfl, rfl, Nat.zero_le _, hS⟩, ?_⟩
  clear hS
  rintro _ _ _ w ⟨i, rfl, rfl, hi, hS⟩
  have hb := sizes_nn (l.take i)
  rw [List.length_take, Nat.min_eq_left hi] at hb
  by_cases hlt : i < l.length
  · obtain ⟨y, hy⟩ : ∃ y, l[i]? = some y := ⟨l[i]'hlt, by simp⟩
    have hsn : l.take (i + 1) = l.take i ++ [y] := by rw [List.take_add_one, hy]; rfl
    have hb2 := sizes_nn (l.take (i + 1))
    rw [hsn, Z.sizes_snoc, List.length_append, List.length_take, Nat.min_eq_left hi, List.length_cons, List.length_nil] at hb2
    have hsn2 : Z.sizes (l.take (i + 1)) = Z.sizes (l.take i) + Z.size y := by rw [hsn, Z.sizes_snoc]
    repeat' (first | (refine pc_symbol_Size (SySize_ok hG hS y ?_); clear hS; intro w hS) | (refine pN_lss_s ?_ ?_ <;> intro hc <;> try (exfalso; omega)) | refine pIf_t ?_ | refine pN_ld_at ha hS (by rfl) ?_ | refine pN_ixk hS _ (by first | rfl | (exact (Int.toNat_of_nonneg (by omega)).symm)) (by first | rfl | omega | simpa only [go_sem] using True.intro | (simp only [go_sem]; omega)) (by assumption) fun a ha hel => ?_ | refine pN_via (by (intro K; simp (disch := omega) only [go_sem, pN_min, pN_max, w_u32, w_u64, Option.isNone_some, Option.isNone_none]; (try simp only [wrap_u32, wrap_u64]); rfl)) ?_ | fail)
    exact ⟨⟨i + 1, by rw [hsn2], rfl, by omega, hS.to⟩, by simp [RowKit.intOf]; omega⟩
  · obtain rfl : i = l.length := by omega
    rw [List.take_length] at *
    repeat' (first | (refine pN_lss_s ?_ ?_ <;> intro hc <;> try (exfalso; omega)) | refine pIf_f ?_ | refine pN_via (by (intro K; simp (disch := omega) only [go_sem, pN_min, pN_max, w_u32, w_u64, Option.isNone_some, Option.isNone_none]; (try simp only [wrap_u32, wrap_u64]); rfl)) ?_ | fail)
    exact hQ _ hS

set_option maxHeartbeats 2000000 in
theorem means_ok {s0 s1 : Sl} {l us : List Z.Y} (hus : us = l.map Z.used) (hS : Sat E w M) [hr : Rds cd_api_Symbol M s0 l] [hr1 : Rds cd_api_Symbol M s1 us] (hl : l.length ≤ 4611686018427387904 / 273) (hQ : ∀ w, Sat E w M → Q (.bool true) w) :
    Calls Tryz.prog 50 #[.slice s0.a l.length s0.c, .slice s1.a us.length s1.c] w (retP Q) := by
  subst hus
  refine pithlaw15_means.calls ?_
  unfold pithlaw15_means.F
  have hml : (l.map Z.used).length = l.length := List.length_map _
  repeat' (first | (refine pN_neq_s ?_ ?_ <;> intro hc <;> try (exfalso; first | omega | exact hc rfl | exact hc (by assumption) | exact absurd hc (by assumption))) | refine pIf_f ?_ | refine pN_via (by (intro K; simp (disch := omega) only [go_sem, pN_min, pN_max, w_u32, w_u64, Option.isNone_some, Option.isNone_none]; (try simp only [wrap_u32, wrap_u64]); rfl)) ?_ | fail)
  refine ⟨fun v w => ∃ i : Nat, v = .int .i64 i ∧ i ≤ l.length ∧ Sat E w M, fun v _ => l.length - (RowKit.intOf v).toNat, ⟨0, rfl, Nat.zero_le _, hS⟩, ?_⟩
  clear hS
  rintro _ _ w ⟨i, rfl, hi, hS⟩
  by_cases hlt : i < l.length
  · obtain ⟨y, hy⟩ : ∃ y, l[i]? = some y := ⟨l[i]'hlt, by simp⟩
    obtain ⟨z, hz, hz2⟩ : ∃ z, (l.map Z.used)[i]? = some z ∧ z = Z.used y := ⟨_, by rw [List.getElem?_map, hy]; rfl, rfl⟩
    have hk : z.Kind = y.Kind := by rw [hz2, Z.kind_used]
    have h1 : y.Kind = 1 → z.Byte = y.Byte := fun h => by rw [hz2, Z.used, if_pos h]
    have h2 : y.Kind = 2 ∨ y.Kind = 3 → z.Len = y.Len ∧ z.Dist = y.Dist := fun h => by rw [hz2, Z.used, if_neg (by omega), if_neg (by omega)]; exact ⟨rfl, rfl⟩
    clear hz2
    by_cases c1 : y.Kind = 1
    · have h1 := h1 c1
      have h1s : (y.Byte.toNat : Int) = z.Byte.toNat := by rw [h1]
      repeat' (first | (refine pN_lss_s ?_ ?_ <;> intro hc <;> try (exfalso; omega)) | ((first | refine pN_eql_s ?_ ?_ | refine pN_neq_s ?_ ?_) <;> intro hc <;> try (exfalso; first | omega | exact hc rfl | exact hc (by assumption) | exact absurd hc (by assumption))) | refine pIf_t ?_ | refine pIf_f ?_ | refine pGd_go (by rfl) ?_ | refine pGd_no (by rfl) ?_ | refine pN_l hS (by first | rfl | assumption) ?_ | refine pN_ld_at ha hS (by rfl) ?_ | (refine pN_sa hS (by rfl) (by rfl) (by rfl) ?_; clear hS; intro w hS; try dsimp only at hS) | (refine pN_nz hS ?_; clear hS; intro a w hS) | refine pN_ixk hS _ (by first | rfl | (exact (Int.toNat_of_nonneg (by omega)).symm)) (by first | rfl | omega | simpa only [go_sem] using True.intro | (simp only [go_sem]; omega)) (by assumption) fun a ha hel => ?_ | refine pN_via (by (intro K; simp (disch := omega) only [go_sem, pN_min, pN_max, w_u32, w_u64, Option.isNone_some, Option.isNone_none]; (try simp only [wrap_u32, wrap_u64]); rfl)) ?_ | fail)
      exact ⟨⟨i + 1, rfl, by omega, hS.to⟩, by simp [RowKit.intOf]; omega⟩
    · by_cases c2 : y.Kind = 2
      · have h2 := h2 (.inl c2)
        repeat' (first | (refine pN_lss_s ?_ ?_ <;> intro hc <;> try (exfalso; omega)) | ((first | refine pN_eql_s ?_ ?_ | refine pN_neq_s ?_ ?_) <;> intro hc <;> try (exfalso; first | omega | exact hc rfl | exact hc (by assumption) | exact absurd hc (by assumption))) | refine pIf_t ?_ | refine pIf_f ?_ | refine pGd_go (by rfl) ?_ | refine pGd_no (by rfl) ?_ | refine pN_l hS (by first | rfl | assumption) ?_ | refine pN_ld_at ha hS (by rfl) ?_ | (refine pN_sa hS (by rfl) (by rfl) (by rfl) ?_; clear hS; intro w hS; try dsimp only at hS) | (refine pN_nz hS ?_; clear hS; intro a w hS) | refine pN_ixk hS _ (by first | rfl | (exact (Int.toNat_of_nonneg (by omega)).symm)) (by first | rfl | omega | simpa only [go_sem] using True.intro | (simp only [go_sem]; omega)) (by assumption) fun a ha hel => ?_ | refine pN_via (by (intro K; simp (disch := omega) only [go_sem, pN_min, pN_max, w_u32, w_u64, Option.isNone_some, Option.isNone_none]; (try simp only [wrap_u32, wrap_u64]); rfl)) ?_ | fail)
        exact ⟨⟨i + 1, rfl, by omega, hS.to⟩, by simp [RowKit.intOf]; omega⟩
      · by_cases c3 : y.Kind = 3
        · have h2 := h2 (.inr c3)
          repeat' (first | (refine pN_lss_s ?_ ?_ <;> intro hc <;> try (exfalso; omega)) | ((first | refine pN_eql_s ?_ ?_ | refine pN_neq_s ?_ ?_) <;> intro hc <;> try (exfalso; first | omega | exact hc rfl | exact hc (by assumption) | exact absurd hc (by assumption))) | refine pIf_t ?_ | refine pIf_f ?_ | refine pGd_go (by rfl) ?_ | refine pGd_no (by rfl) ?_ | refine pN_l hS (by first | rfl | assumption) ?_ | refine pN_ld_at ha hS (by rfl) ?_ | (refine pN_sa hS (by rfl) (by rfl) (by rfl) ?_; clear hS; intro w hS; try dsimp only at hS) | (refine pN_nz hS ?_; clear hS; intro a w hS) | refine pN_ixk hS _ (by first | rfl | (exact (Int.toNat_of_nonneg (by omega)).symm)) (by first | rfl | omega | simpa only [go_sem] using True.intro | (simp only [go_sem]; omega)) (by assumption) fun a ha hel => ?_ | refine pN_via (by (intro K; simp (disch := omega) only [go_sem, pN_min, pN_max, w_u32, w_u64, Option.isNone_some, Option.isNone_none]; (try simp only [wrap_u32, wrap_u64]); rfl)) ?_ | fail)
          exact ⟨⟨i + 1, rfl, by omega, hS.to⟩, by simp [RowKit.intOf]; omega⟩
        · repeat' (first | (refine pN_lss_s ?_ ?_ <;> intro hc <;> try (exfalso; omega)) | ((first | refine pN_eql_s ?_ ?_ | refine pN_neq_s ?_ ?_) <;> intro hc <;> try (exfalso; first | omega | exact hc rfl | exact hc (by assumption) | exact absurd hc (by assumption))) | refine pIf_t ?_ | refine pIf_f ?_ | refine pGd_go (by rfl) ?_ | refine pGd_no (by rfl) ?_ | refine pN_l hS (by first | rfl | assumption) ?_ | refine pN_ld_at ha hS (by rfl) ?_ | (refine pN_sa hS (by rfl) (by rfl) (by rfl) ?_; clear hS; intro w hS; try dsimp only at hS) | (refine pN_nz hS ?_; clear hS; intro a w hS) | refine pN_ixk hS _ (by first | rfl | (exact (Int.toNat_of_nonneg (by omega)).symm)) (by first | rfl | omega | simpa only [go_sem] using True.intro | (simp only [go_sem]; omega)) (by assumption) fun a ha hel => ?_ | refine pN_via (by (intro K; simp (disch := omega) only [go_sem, pN_min, pN_max, w_u32, w_u64, Option.isNone_some, Option.isNone_none]; (try simp only [wrap_u32, wrap_u64]); rfl)) ?_ | fail)
          exact ⟨⟨i + 1, rfl, by omega, hS.to⟩, by simp [RowKit.intOf]; omega⟩
  · obtain rfl : i = l.length := by omega
    repeat' (first | (refine pN_lss_s ?_ ?_ <;> intro hc <;> try (exfalso; omega)) | refine pIf_f ?_ | refine pN_via (by (intro K; simp (disch := omega) only [go_sem, pN_min, pN_max, w_u32, w_u64, Option.isNone_some, Option.isNone_none]; (try simp only [wrap_u32, wrap_u64]); rfl)) ?_ | fail)
    exact hQ _ hS

theorem both_in {p : Z.Pr} (hS : Sat E w M) (hp : p.Ok) (n : Int) (h0 : 1 ≤ n) (h1 : n ≤ 4294967295) (hQ : ∀ e d w, Sat E w (LEnc e (Z.EZ.new p n) :: LDec d (.ok (Z.DZ.new p n)) :: M) → Q (.tuple #[pz e, pz d, .bool true]) w) :
    Calls Tryz.prog 37 #[.agg #[.int .i64 p.lc, .int .i64 p.lp, .int .i64 p.pb], .int .i64 n] w (retP Q) := by
  refine pithlaw15_both.calls ?_
  unfold pithlaw15_both.F
  repeat' (first | refine pN_la_at (n := 3) hS p.cells rfl rfl ?_ | (refine pN_bx hS (by rfl) ?_; clear hS; intro a w hS) | fail)
  refine pc_lzenc_New (LNew_in (p := p) hS hp n h0 h1 fun e w hS => ?_)
  repeat' (first | refine pN_la_at (n := 3) hS p.cells rfl rfl ?_ | refine pN_via (by (intro K; simp (disch := omega) only [go_sem, pN_min, pN_max, w_u32, w_u64, Option.isNone_some, Option.isNone_none]; (try simp only [wrap_u32, wrap_u64]); rfl)) ?_ | fail)
  refine pc_lzdec_New (DcNew_in (p := p) hS hp n h0 h1 fun d w hS => ?_)
  repeat' (first | ((first | refine pN_eql_s ?_ ?_ | refine pN_neq_s ?_ ?_) <;> intro hc <;> try (exfalso; first | omega | exact hc rfl | exact hc (by assumption) | exact absurd hc (by assumption))) | refine pGd_go (by rfl) ?_ | refine pN_via (by (intro K; simp (disch := omega) only [go_sem, pN_min, pN_max, w_u32, w_u64, Option.isNone_some, Option.isNone_none]; (try simp only [wrap_u32, wrap_u64]); rfl)) ?_ | fail)
  exact hQ _ _ _ hS.to
theorem both_no {p : Z.Pr} (hS : Sat E w M) (n : Int) (hpb : -9223372036854775808 ≤ p.lc ∧ p.lc < 9223372036854775808) (h : ¬ (p.Ok ∧ 1 ≤ n ∧ n ≤ 4294967295)) (hQ : ∀ w, Sat E w M → Q (.tuple #[.pointer none, .pointer none, .bool true]) w) :
    Calls Tryz.prog 37 #[.agg #[.int .i64 p.lc, .int .i64 p.lp, .int .i64 p.pb], .int .i64 n] w (retP Q) := by
  refine pithlaw15_both.calls ?_
  unfold pithlaw15_both.F
  repeat' (first | refine pN_la_at (n := 3) hS p.cells rfl rfl ?_ | (refine pN_bx hS (by rfl) ?_; clear hS; intro a w hS) | fail)
  refine pc_lzenc_New (LNew_no (p := p) hS n hpb h fun w hS => ?_)
  repeat' (first | refine pN_la_at (n := 3) hS p.cells rfl rfl ?_ | refine pN_via (by (intro K; simp (disch := omega) only [go_sem, pN_min, pN_max, w_u32, w_u64, Option.isNone_some, Option.isNone_none]; (try simp only [wrap_u32, wrap_u64]); rfl)) ?_ | fail)
  refine pc_lzdec_New (DcNew_no (p := p) hS n hpb h fun w hS => ?_)
  by_cases hp : p.Ok
  · simp only [if_pos hp]
    repeat' (first | ((first | refine pN_eql_s ?_ ?_ | refine pN_neq_s ?_ ?_) <;> intro hc <;> try (exfalso; first | omega | exact hc rfl | exact hc (by assumption) | exact absurd hc (by assumption))) | refine pGd_go (by rfl) ?_ | refine pN_via (by (intro K; simp (disch := omega) only [go_sem, pN_min, pN_max, w_u32, w_u64, Option.isNone_some, Option.isNone_none]; (try simp only [wrap_u32, wrap_u64]); rfl)) ?_ | fail)
    exact hQ _ hS.to
  · simp only [if_neg hp]
    repeat' (first | ((first | refine pN_eql_s ?_ ?_ | refine pN_neq_s ?_ ?_) <;> intro hc <;> try (exfalso; first | omega | exact hc rfl | exact hc (by assumption) | exact absurd hc (by assumption))) | refine pGd_go (by rfl) ?_ | refine pN_via (by (intro K; simp (disch := omega) only [go_sem, pN_min, pN_max, w_u32, w_u64, Option.isNone_some, Option.isNone_none]; (try simp only [wrap_u32, wrap_u64]); rfl)) ?_ | fail)
    exact hQ _ hS.to

set_option maxRecDepth 8000 in
theorem fixed15_ok (hG : Glo W) (hS : Sat E w M) [h : Has (old W) M N] (hQ : ∀ w, Sat E w M → Q (.bool true) w) : Calls Tryz.prog 10 #[] w (retP Q) := by
  refine pithlaw15_fixed.calls ?_
  unfold pithlaw15_fixed.F
  obtain ⟨d', hd⟩ := Z.fixed_take
  repeat' (first | refine pN_via (by (intro K; simp (disch := omega) only [go_sem, pN_min, pN_max, w_u32, w_u64, Option.isNone_some, Option.isNone_none]; (try simp only [wrap_u32, wrap_u64]); rfl)) ?_ | fail)
  refine pc_lzdec_New (DcNew_in (p := ⟨3, 0, 2⟩) hS Z.known15_p 4096 (by decide) (by decide) fun d w hS => ?_)
  have hlen : (Z.DS.ok (Z.DZ.new ⟨3, 0, 2⟩ 4096)).len = 0 := rfl
  generalize Z.DZ.new ⟨3, 0, 2⟩ 4096 = e at *
  have hx : (Z.DS.ok e).len + 2097152 + 273 ≤ 4611686018427387904 := by rw [hlen]; decide
  repeat' (first | (refine pN_neq_s ?_ ?_ <;> intro hc <;> try (exfalso; first | omega | exact hc rfl | exact hc (by assumption) | exact absurd hc (by assumption))) | refine pIf_f ?_ | refine pGd_go (by rfl) ?_ | (refine pN_mk hS _ (by first | rfl | (exact (Int.toNat_of_nonneg (by omega)).symm)) (by first | omega | (simp only [go_sem]; omega)) ?_; clear hS; intro s w hS) | refine pN_via (by (intro K; simp (disch := omega) only [go_sem, pN_min, pN_max, w_u32, w_u64, Option.isNone_some, Option.isNone_none]; (try simp only [wrap_u32, wrap_u64]); rfl)) ?_ | fail)
  have hS : Sat E _ (rows cd_uint8 s (List.replicate 6 0) :: LDec d (.ok e) :: M) := hS
  refine pc_lzdec_Decoder_Take (DcTake_ok (l := List.replicate 6 0) (s0 := s) hG (hS.fd (LDec d)) (by decide) 1 hx fun sl so w hS => ?_)
  rw [hd] at hS ⊢
  have hy0 : ([⟨1, 0, 0, 0⟩] : List Z.Y)[0]? = some ⟨1, 0, 0, 0⟩ := rfl
  repeat' (first | refine pN_eqs (y := ⟨1, 0, 0, 0⟩) (z := ⟨1, 0, 0, 0⟩) ?_ ?_ <;> intro hc <;> try (exfalso; exact hc rfl) | ((first | refine pN_eql_s ?_ ?_ | refine pN_eql_ss ?_ ?_) <;> intro hc <;> try (exfalso; first | omega | exact hc rfl | exact hc (by assumption) | exact absurd hc (by assumption))) | refine pGd_go (by rfl) ?_ | refine pN_ld_at ha hS (by rfl) ?_ | refine pN_ixk hS _ (by first | rfl | (exact (Int.toNat_of_nonneg (by omega)).symm)) (by first | rfl | omega | simpa only [go_sem] using True.intro | (simp only [go_sem]; omega)) (by assumption) fun a ha hel => ?_ | refine pN_st hS (by first | rfl | omega | simpa only [go_sem] using True.intro | (simp only [go_sem]; omega)) ?_ | refine pN_via (by (intro K; simp (disch := omega) only [go_sem, pN_min, pN_max, w_u32, w_u64, Option.isNone_some, Option.isNone_none]; (try simp only [wrap_u32, wrap_u64]); rfl)) ?_ | fail)
  exact hQ _ hS.to
end

end Go.Proofs.YtbgnnjfpiblkmaaGreatDoor

namespace Go.Proofs.YtbgnnjfpiblkmaaGreatDoor
open Go
set_option linter.unusedSimpArgs false
set_option linter.unnecessarySimpa false
set_option linter.unusedSectionVars false
set_option linter.unusedVariables false
namespace Z
theorem DS.take_in {e : DZ} {b : List UInt8} {n : Int} (hn : 1 ≤ n ∧ n ≤ 2097152) {r : DZ × List Y × List UInt8} (h : e.take b n = some r) : (DS.ok e).take b n = ⟨.ok r.1, 0, r.2.1, r.2.2⟩ := by
  unfold DS.take
  rw [if_pos hn]
  simp only [h]
end Z
attribute [local irreducible] oMv oV oU oCall oCallV oBi oBin oUn oLoad oStore oNil oFld oField oIdx oIndex oPick oAlloc oBox oBuild oBs oConv oMk oSl oExt oFn oIface oMap oLook oMapUp oRange oNext oEntry oInv oAssert oPanic oRes pN pA pL pDr pIf gA pGd

section
variable {E w W : World} {M N : List HA} {Q : Value → World → Prop}

theorem LRaw_ok {s0 : Sl} {l : List UInt8} {b : Nat} {e : Z.EZ} (hS : Sat E w (LEnc b e :: M)) [hl : Rds cd_uint8 M s0 l] (hn : e.x.all.length + l.length ≤ 4611686018427387904) (hQ : ∀ w, Sat E w (LEnc b (e.raw l) :: M) → Q (.tuple #[]) w) :
    Calls Tryz.prog 24 #[pz b, .slice s0.a l.length s0.c] w (retP Q) := by
  refine lzenc_Encoder_Raw.calls ?_
  unfold lzenc_Encoder_Raw.F
  obtain ⟨he, t, wd, en, q, hS⟩ := LEnc.opn hS
  repeat' (first | (refine pc_window_Window_Put (WPut_ok (hS.fd (Win wd)) (by omega) ?_); clear hS; intro w hS) | refine pN_l hS (by first | rfl | assumption) ?_ | refine pN_via (by (intro K; simp (disch := omega) only [go_sem, pN_min, pN_max, w_u32, w_u64, Option.isNone_some, Option.isNone_none]; (try simp only [wrap_u32, wrap_u64]); rfl)) ?_ | fail)
  have hS5 : Sat E _ (cel b ⟨128, encCells t wd en⟩ :: cel t ⟨141, tbCells e.p e.st q⟩ :: Win wd ⟨e.x.size, e.x.all ++ l⟩ :: Enc en e.s :: tabs q e.T :: M) := hS.to
  exact hQ _ (LEnc.shut (e := e.raw l) (t := t) (wd := wd) (en := en) (q := q) hS5 (he.raw l))
end

end Go.Proofs.YtbgnnjfpiblkmaaGreatDoor

namespace Go.Proofs.YtbgnnjfpiblkmaaGreatDoor
open Go
set_option linter.unusedSimpArgs false
set_option linter.unnecessarySimpa false
set_option linter.unusedSectionVars false
set_option linter.unusedVariables false
namespace Z
def EZ.tell (e : EZ) (x : T_pithlaw15_Part) : EZ := if x.Kind = 1 then e.raw x.Raw.2 else if x.Kind = 2 then e.reset ⟨x.Props.LC, x.Props.LP, x.Props.PB⟩ else e.clear
theorem EZ.reset_dz (e : EZ) (p : Pr) : (DS.ok e.dz).reset p = .ok (e.reset p).dz := by
  unfold DS.reset DZ.reset EZ.reset
  simp only
  split <;> rfl
theorem EZ.Ok.tell {e : EZ} (h : e.Ok) (x : T_pithlaw15_Part) : (e.tell x).Ok := by
  unfold EZ.tell
  split
  · exact h.raw _
  · split
    · exact h.reset _
    · exact h.clear
theorem EZ.tell_s (e : EZ) (x : T_pithlaw15_Part) : (e.tell x).s = e.s := by
  unfold EZ.tell EZ.reset
  split
  · rfl
  · split
    · split <;> rfl
    · rfl
theorem EZ.tell_len (e : EZ) (x : T_pithlaw15_Part) : (e.tell x).x.all.length ≤ e.x.all.length + x.Raw.2.length := by
  unfold EZ.tell EZ.reset
  split
  · simp only [EZ.raw, W.put, List.length_append]; omega
  · split
    · split
      · simp only; omega
      · omega
    · simp [EZ.clear]
end Z
attribute [local irreducible] oMv oV oU oCall oCallV oBi oBin oUn oLoad oStore oNil oFld oField oIdx oIndex oPick oAlloc oBox oBuild oBs oConv oMk oSl oExt oFn oIface oMap oLook oMapUp oRange oNext oEntry oInv oAssert oPanic oRes pN pA pL pDr pIf gA pGd

theorem run_ld_at {α : Type} {C : Cd α} {l : List α} {s : Sl} {E w : World} {L : List HA} {P : Program} {t : TypeId} {z : Nat} {a : Addr} {cs : List Value} (ha : EA C s l a cs) (hS : Sat E w L) [hr : Rds C L s l] [Ag P t z] (hn : z = cs.length) : (oLoad t (.pointer (some a))).run P w = .ok (.value (.agg cs.toArray)) w := by
  subst hn
  exact run_load_agg Ag.ag Ag.sz (ha.at_ E w L hr hS)

section
variable {E w W : World} {M N : List HA} {Q : Value → World → Prop}

set_option maxHeartbeats 1000000 in
theorem told_ok {e d : Nat} {Z1 : Z.EZ} {x : T_pithlaw15_Part} (hS : Sat E w (LEnc e Z1 :: LDec d (.ok Z1.dz) :: M)) [hr : Rds cd_uint8 M x.Raw.1 x.Raw.2] (hl : x.Raw.2.length ≤ 140737488351232) (hn : Z1.x.all.length + x.Raw.2.length ≤ 4611686018427387904) (hb : -9223372036854775808 ≤ x.Props.LC ∧ x.Props.LC < 9223372036854775808)
    (hk : x.Kind = 1 ∨ x.Kind = 2 ∨ x.Kind = 3)
    (hQ : ∀ w, Sat E w (LEnc e (Z1.tell x) :: LDec d (.ok (Z1.tell x).dz) :: M) → Q (.bool true) w) :
    Calls Tryz.prog 44 #[pz e, pz d, .agg x.enc.toArray] w (retP Q) := by
  refine pithlaw15_told.calls ?_
  unfold pithlaw15_told.F
  unfold Z.EZ.tell at hQ
  obtain ⟨kind, ⟨lc, lp, pb⟩, ⟨sr, raw⟩, ⟨ss, ys⟩⟩ := x
  dsimp only at hr hl hn hb hk hQ
  refine pN_bx (z := [.int .i64 kind, .int .i64 lc, .int .i64 lp, .int .i64 pb, .slice sr.a raw.length sr.c, .slice ss.a ys.length ss.c]) hS (by rfl) fun x5 w hS => ?_
  rcases hk with rfl | rfl | rfl
  · rw [if_pos rfl] at hQ
    refine ⟨fun w => Sat E w (LEnc e (Z1.raw raw) :: LDec d (.ok (Z1.raw raw).dz) :: M), ?_, ?_⟩
    · repeat' (first | (refine pN_eql_s ?_ ?_ <;> intro hc <;> try (exfalso; first | omega | exact hc rfl | exact hc (by assumption) | exact absurd hc (by assumption))) | refine pIf_t ?_ | refine pN_l hS (by first | rfl | assumption) ?_ | (refine pN_b0 hS ?_; clear hS; intro s w hS) | (refine pN_app hS (by first | rfl | omega | simpa only [go_sem] using True.intro | (simp only [go_sem]; omega)) (by first | rfl | omega | simpa only [go_sem] using True.intro | (simp only [go_sem]; omega)) (by first | omega | (simp only [go_sem]; omega)) ?_; clear hS; intro s w hS) | refine pN_via (by (intro K; simp (disch := omega) only [go_sem, pN_min, pN_max, w_u32, w_u64, Option.isNone_some, Option.isNone_none]; (try simp only [wrap_u32, wrap_u64]); rfl)) ?_ | fail)
      simp only [List.nil_append] at hS ⊢
      refine pc_lzenc_Encoder_Raw (LRaw_ok (l := raw) (hS.fd (LEnc e)) hn fun w hS => ?_)
      repeat' (first | refine pN_l hS (by first | rfl | assumption) ?_ | (refine pN_b0 hS ?_; clear hS; intro s w hS) | (refine pN_app hS (by first | rfl | omega | simpa only [go_sem] using True.intro | (simp only [go_sem]; omega)) (by first | rfl | omega | simpa only [go_sem] using True.intro | (simp only [go_sem]; omega)) (by first | omega | (simp only [go_sem]; omega)) ?_; clear hS; intro s w hS) | refine pN_via (by (intro K; simp (disch := omega) only [go_sem, pN_min, pN_max, w_u32, w_u64, Option.isNone_some, Option.isNone_none]; (try simp only [wrap_u32, wrap_u64]); rfl)) ?_ | fail)
      simp only [List.nil_append] at hS ⊢
      refine pc_lzdec_Decoder_Raw (DcRaw_ok (l := raw) (hS.fd (LDec d)) hn fun w hS => ?_)
      have hS : Sat E w (LDec d (.ok (Z1.raw raw).dz) :: _) := hS
      exact hS.to
    · clear hS
      intro _ w hS
      exact hQ _ hS
  · rw [if_neg (by decide), if_pos rfl] at hQ
    refine ⟨fun w => False, ?_, fun _ _ h => h.elim⟩
    by_cases hp : (⟨lc, lp, pb⟩ : Z.Pr).Ok
    · have er := Z.EZ.reset_dz Z1 ⟨lc, lp, pb⟩
      repeat' (first | refine pL_la_at (n := 3) hS [.int .i64 lc, .int .i64 lp, .int .i64 pb] rfl rfl ?_ | refine ⟨⟨run_la_at (n := 3) hS [.int .i64 lc, .int .i64 lp, .int .i64 pb] rfl rfl, trivial⟩, ?_⟩ | (refine pc_lzenc_Encoder_Reset (LReset_in (p := ⟨lc, lp, pb⟩) hp (hS.fd (LEnc e)) ?_); clear hS; intro w hS) | (refine pc_lzdec_Decoder_Reset (DcReset_in (p := ⟨lc, lp, pb⟩) hp (hS.fd (LDec d)) ?_); clear hS; intro w hS) | ((first | refine pN_eql_s ?_ ?_ | refine pA_eql_s ?_ ?_) <;> intro hc <;> try (exfalso; first | omega | exact hc rfl | exact hc (by assumption) | exact absurd hc (by assumption))) | refine pIf_t ?_ | refine pIf_f ?_ | refine pN_l hS (by first | rfl | assumption) ?_ | (refine pDr_go hS ?_; clear hS; intro w hS) | refine ⟨trivial, ?_⟩ | refine pN_via (by (intro K; simp (disch := omega) only [go_sem, pN_min, pN_max, w_u32, w_u64, Option.isNone_some, Option.isNone_none]; (try simp only [wrap_u32, wrap_u64]); rfl)) ?_ | refine pA_via (by (intro K; simp (disch := omega) only [go_sem, pN_min, pN_max, w_u32, w_u64, Option.isNone_some, Option.isNone_none]; (try simp only [wrap_u32, wrap_u64]); rfl)) ?_ | fail)
      rw [er] at hS
      exact hQ _ hS.to
    · have er : Z1.reset ⟨lc, lp, pb⟩ = Z1 := by rw [Z.EZ.reset, if_neg hp]
      rw [er] at hQ
      repeat' (first | refine pL_la_at (n := 3) hS [.int .i64 lc, .int .i64 lp, .int .i64 pb] rfl rfl ?_ | refine ⟨⟨run_la_at (n := 3) hS [.int .i64 lc, .int .i64 lp, .int .i64 pb] rfl rfl, trivial⟩, ?_⟩ | (refine pc_lzenc_Encoder_Reset (LReset_no (p := ⟨lc, lp, pb⟩) hp hb (hS.fd (LEnc e)) ?_); clear hS; intro w hS) | (refine pc_lzdec_Decoder_Reset (DcReset_no (p := ⟨lc, lp, pb⟩) hp hb (hS.fd (LDec d)) ?_); clear hS; intro w hS) | ((first | refine pN_eql_s ?_ ?_ | refine pA_eql_s ?_ ?_) <;> intro hc <;> try (exfalso; first | omega | exact hc rfl | exact hc (by assumption) | exact absurd hc (by assumption))) | refine pIf_t ?_ | refine pIf_f ?_ | refine pN_l hS (by first | rfl | assumption) ?_ | (refine pDr_go hS ?_; clear hS; intro w hS) | refine ⟨trivial, ?_⟩ | refine pN_via (by (intro K; simp (disch := omega) only [go_sem, pN_min, pN_max, w_u32, w_u64, Option.isNone_some, Option.isNone_none]; (try simp only [wrap_u32, wrap_u64]); rfl)) ?_ | refine pA_via (by (intro K; simp (disch := omega) only [go_sem, pN_min, pN_max, w_u32, w_u64, Option.isNone_some, Option.isNone_none]; (try simp only [wrap_u32, wrap_u64]); rfl)) ?_ | fail)
      exact hQ _ hS.to
  · rw [if_neg (by decide), if_neg (by decide)] at hQ
    refine ⟨fun w => Sat E w (LEnc e Z1.clear :: LDec d (.ok Z1.clear.dz) :: M), ?_, ?_⟩
    · repeat' (first | (refine pc_lzenc_Encoder_Clear (LClear_ok (hS.fd (LEnc e)) ?_); clear hS; intro w hS) | (refine pN_eql_s ?_ ?_ <;> intro hc <;> try (exfalso; first | omega | exact hc rfl | exact hc (by assumption) | exact absurd hc (by assumption))) | refine pIf_f ?_ | refine pN_l hS (by first | rfl | assumption) ?_ | refine pN_via (by (intro K; simp (disch := omega) only [go_sem, pN_min, pN_max, w_u32, w_u64, Option.isNone_some, Option.isNone_none]; (try simp only [wrap_u32, wrap_u64]); rfl)) ?_ | fail)
      refine pc_lzdec_Decoder_Clear (DcClear_ok (hS.fd (LDec d)) fun w hS => ?_)
      have hS : Sat E w (LDec d (.ok Z1.clear.dz) :: _) := hS
      exact hS.to
    · clear hS
      intro _ w hS
      exact hQ _ hS
end

set_option maxRecDepth 8000 in
set_option maxHeartbeats 2000000 in
theorem walk_DecBack (W : World) (hG : Glo W) (x0 : T_api_Props) (x1 : Int) (x2 : Sl × List T_pithlaw15_Part) (k0 k1 k2 : Nat)
    (h0 : x0.ok W k0) (h1 : -9223372036854775808 ≤ x1 ∧ x1 < 9223372036854775808)
    (h2 : RdP cd_pithlaw15_Part (old W) x2.1 x2.2 ∧ x2.2.length * 80 ≤ reachBytes ∧ x2.2.length + 1 ≤ k2 ∧ ∀ c ∈ x2.2, ∃ k, k ≤ k2 ∧ c.ok W k)
    (q0 : k0 ≤ 1048576) (q1 : k1 ≤ 1048576) (q2 : k2 ≤ 1048576) :
    Calls Tryz.prog 7 #[.agg x0.enc.toArray, .int .i64 x1, .slice x2.1.a x2.2.length x2.1.c] W fun e W' => e = .returned (.bool true) ∧ RowKit.Below W.heap.size W W' := by
  refine walk_end (pithlaw15_DecBack.calls ?_)
  unfold pithlaw15_DecBack.F
  obtain ⟨r2, _, s2, hc2⟩ := h2
  have hS := Sat.start W
  obtain ⟨lc, lp, pb⟩ := x0
  have hlc := h0.1
  dsimp only at hlc
  refine pN_bx (z := [.int .i64 lc, .int .i64 lp, .int .i64 pb]) hS (by rfl) fun x3 w hS => ?_
  by_cases hok : (⟨lc, lp, pb⟩ : Z.Pr).Ok ∧ 1 ≤ x1 ∧ x1 ≤ 4294967295
  rotate_left 1
  · repeat' (first | refine pN_la_at (n := 3) hS [.int .i64 lc, .int .i64 lp, .int .i64 pb] rfl rfl ?_ | fail)
    refine pc_pithlaw15_both (both_no (p := ⟨lc, lp, pb⟩) hS x1 hlc hok fun w hS => ?_)
    repeat' (first | (refine pc_pithlaw15_fixed (fixed15_ok hG hS ?_); clear hS; intro w hS) | refine pIf_t ?_ | refine pIf_f ?_ | refine pGd_go (by rfl) ?_ | refine pN_via (by (intro K; simp (disch := omega) only [go_sem, pN_min, pN_max, w_u32, w_u64, Option.isNone_some, Option.isNone_none]; (try simp only [wrap_u32, wrap_u64]); rfl)) ?_ | fail)
    exact ⟨rfl, hS.to⟩
  obtain ⟨hp, n0, n1⟩ := hok
  repeat' (first | refine pN_la_at (n := 3) hS [.int .i64 lc, .int .i64 lp, .int .i64 pb] rfl rfl ?_ | fail)
  refine pc_pithlaw15_both (both_in (p := ⟨lc, lp, pb⟩) hS hp x1 n0 n1 fun e d w hS => ?_)
  have hE0 := Z.EZ.Ok.new hp x1
  have hn0 : (Z.EZ.new ⟨lc, lp, pb⟩ x1).s = R.S.new := rfl
  have hx0 : (Z.EZ.new ⟨lc, lp, pb⟩ x1).x = ⟨x1, []⟩ := rfl
  have hs0 : (Z.EZ.new ⟨lc, lp, pb⟩ x1).st = Z.St.new := rfl
  have hdz : Z.DZ.new ⟨lc, lp, pb⟩ x1 = (Z.EZ.new ⟨lc, lp, pb⟩ x1).dz := rfl
  rw [hdz] at hS
  repeat' (first | (refine pc_pithlaw15_fixed (fixed15_ok hG hS ?_); clear hS; intro w hS) | (refine pc_window_New (WNew_in hS x1 n0 n1 ?_); clear hS; intro wd w hS) | (refine pc_state_New (SNew_ok hS ?_); clear hS; intro w hS) | (refine pN_neq_s ?_ ?_ <;> intro hc <;> try (exfalso; first | omega | exact hc rfl | exact hc (by assumption) | exact absurd hc (by assumption))) | refine pIf_f ?_ | refine pGd_go (by rfl) ?_ | (refine pN_sa hS (by rfl) (by rfl) (by rfl) ?_; clear hS; intro w hS; try dsimp only at hS) | (refine pN_nz hS ?_; clear hS; intro a w hS) | refine pN_via (by (intro K; simp (disch := omega) only [go_sem, pN_min, pN_max, w_u32, w_u64, Option.isNone_some, Option.isNone_none]; (try simp only [wrap_u32, wrap_u64]); rfl)) ?_ | fail)
  revert a
  intro x12 hS
  have hS : Sat W _ (cel x12 ⟨100, [.int .i64 0, .int .i64 1, .int .i64 1, .int .i64 1, .int .i64 1]⟩ :: Win wd ⟨x1, []⟩ :: LEnc e (Z.EZ.new ⟨lc, lp, pb⟩ x1) :: LDec d (.ok (Z.EZ.new ⟨lc, lp, pb⟩ x1).dz) :: [old W]) := hS.to
  have hS : Sat W _ (cel x12 ⟨100, Z.St.new.cells⟩ :: Win wd ⟨x1, []⟩ :: LEnc e (Z.EZ.new ⟨lc, lp, pb⟩ x1) :: LDec d (.ok (Z.EZ.new ⟨lc, lp, pb⟩ x1).dz) :: [old W]) := hS
  rw [← hx0, ← hs0] at hS
  generalize Z.EZ.new ⟨lc, lp, pb⟩ x1 = E0 at *
  obtain ⟨f, hf0, hf1, hf2⟩ : ∃ f : Nat → Nat, f 0 = 0 ∧ (∀ i, f (i + 1) = f i + 536870912) ∧ ∀ i, i ≤ 1048576 → f i ≤ 562949953421312 :=
    ⟨fun i => i * 536870912, Nat.zero_mul _, fun i => Nat.succ_mul _ _, fun i hi => Nat.le_trans (Nat.mul_le_mul_right 536870912 hi) (by decide)⟩
  refine ⟨fun v w => ∃ (i : Nat) (Z1 : Z.EZ), v = .int .i64 i ∧ i ≤ x2.2.length ∧ Z1.Ok ∧ Z1.s = R.S.new ∧ Z1.x.all.length ≤ f i ∧ Sat W w [cel x12 ⟨100, Z1.st.cells⟩, Win wd Z1.x, LEnc e Z1, LDec d (.ok Z1.dz), old W], fun v _ => x2.2.length - (RowKit.intOf v).toNat,
    ⟨0, E0, rfl, Nat.zero_le _, hE0, hn0, by rw [hx0]; exact Nat.zero_le _, hS⟩, ?_⟩
  clear hS hE0 hn0 hx0 hs0 hdz
  rintro _ _ w ⟨i, Z1, rfl, hi, hZ, hZs, hZx, hS⟩
  by_cases hlt : i < x2.2.length
  rotate_left 1
  · repeat' (first | (refine pN_lss_s ?_ ?_ <;> intro hc <;> try (exfalso; omega)) | refine pIf_f ?_ | refine pN_via (by (intro K; simp (disch := omega) only [go_sem, pN_min, pN_max, w_u32, w_u64, Option.isNone_some, Option.isNone_none]; (try simp only [wrap_u32, wrap_u64]); rfl)) ?_ | fail)
    exact ⟨rfl, hS.to⟩
  obtain ⟨c, hc⟩ : ∃ c, x2.2[i]? = some c := ⟨x2.2[i]'hlt, by simp⟩
  obtain ⟨kc, hkc, hcok⟩ := hc2 c (List.mem_of_getElem? hc)
  obtain ⟨_, ⟨_, _, hcp⟩, ⟨kr, hkr, rr, sr1, sr2, _⟩, ⟨ks, hks, rs, ss1, ss2, _⟩⟩ := hcok
  have hcl := hcp.1
  have hrl : c.Raw.2.length ≤ 1048576 := by omega
  have hsl : c.Symbols.2.length ≤ 1048576 := by omega
  have hil : i ≤ 1048576 := by omega
  have hf1 := hf1 i
  have hf2 := hf2 i hil
  have hlen2 : Z1.x.all.length + c.Raw.2.length ≤ f (i + 1) := by omega
  have hlen1 : Z1.x.all.length ≤ f (i + 1) := by omega
  repeat' (first | (refine pN_lss_s ?_ ?_ <;> intro hc <;> try (exfalso; omega)) | refine pIf_t ?_ | refine pN_via (by (intro K; simp (disch := omega) only [go_sem, pN_min, pN_max, w_u32, w_u64, Option.isNone_some, Option.isNone_none]; (try simp only [wrap_u32, wrap_u64]); rfl)) ?_ | fail)
  refine ⟨fun w => ∃ Z2 : Z.EZ, Z2.Ok ∧ Z2.s = R.S.new ∧ Z2.x.all.length ≤ f (i + 1) ∧ Sat W w [cel x12 ⟨100, Z2.st.cells⟩, Win wd Z2.x, LEnc e Z2, LDec d (.ok Z2.dz), old W], ?_, ?_⟩
  rotate_left 1
  · clear hS
    rintro _ w ⟨Z2, hZ2, hZ2s, hZ2x, hS⟩
    repeat' (first | refine pN_via (by (intro K; simp (disch := omega) only [go_sem, pN_min, pN_max, w_u32, w_u64, Option.isNone_some, Option.isNone_none]; (try simp only [wrap_u32, wrap_u64]); rfl)) ?_ | fail)
    exact ⟨⟨i + 1, Z2, rfl, by omega, hZ2, hZ2s, hZ2x, hS⟩, by simp [RowKit.intOf]; omega⟩
  obtain ⟨kind, ⟨lc', lp', pb'⟩, ⟨sr, raw⟩, ⟨ss, ys⟩⟩ := c
  dsimp only at rr sr1 sr2 rs ss1 ss2 hcl hrl hsl hlen2
  refine pN_ixk hS i rfl rfl hc (fun a ha hel => ?_)
  refine pN_ld_at ha hS (by rfl) ?_
  refine pN_nz hS fun x14 w hS => ?_
  refine pN_sa hS (by rfl) (by rfl) (by rfl) fun w hS => ?_
  clear ha hel a
  have hS : Sat W w (cel x14 ⟨103, [.int .i64 kind, .int .i64 lc', .int .i64 lp', .int .i64 pb', .slice sr.a raw.length sr.c, .slice ss.a ys.length ss.c]⟩ :: [cel x12 ⟨100, Z1.st.cells⟩, Win wd Z1.x, LEnc e Z1, LDec d (.ok Z1.dz), old W]) := hS
  by_cases hk : kind = 1 ∨ kind = 2 ∨ kind = 3
  · have htl := Z.EZ.Ok.tell hZ ⟨kind, ⟨lc', lp', pb'⟩, (sr, raw), (ss, ys)⟩
    have hts := Z.EZ.tell_s Z1 ⟨kind, ⟨lc', lp', pb'⟩, (sr, raw), (ss, ys)⟩
    have htx := Z.EZ.tell_len Z1 ⟨kind, ⟨lc', lp', pb'⟩, (sr, raw), (ss, ys)⟩
    have hte : Z1.tell ⟨kind, ⟨lc', lp', pb'⟩, (sr, raw), (ss, ys)⟩ = if kind = 1 then Z1.raw raw else if kind = 2 then Z1.reset ⟨lc', lp', pb'⟩ else Z1.clear := rfl
    dsimp only at htx
    generalize hZ2 : Z1.tell ⟨kind, ⟨lc', lp', pb'⟩, (sr, raw), (ss, ys)⟩ = Z2 at *
    rcases hk with rfl | rfl | rfl
    · rw [if_pos rfl] at hte
      repeat' (first | (refine pN_eql_s ?_ ?_ <;> intro hc <;> try (exfalso; first | omega | exact hc rfl | exact hc (by assumption) | exact absurd hc (by assumption))) | refine pIf_t ?_ | refine pGd_no (by rfl) ?_ | refine pN_l hS (by first | rfl | assumption) ?_ | refine pN_la hS (by rfl) ?_ | refine pN_via (by (intro K; simp (disch := omega) only [go_sem, pN_min, pN_max, w_u32, w_u64, Option.isNone_some, Option.isNone_none]; (try simp only [wrap_u32, wrap_u64]); rfl)) ?_ | fail)
      refine pc_pithlaw15_told (told_ok (x := ⟨1, ⟨lc', lp', pb'⟩, (sr, raw), (ss, ys)⟩) (Z1 := Z1) (hS.fd2 (LEnc e) (LDec d)) (by show raw.length ≤ _; omega) (by show _ + raw.length ≤ _; omega) hcl (.inl rfl) fun w hS => ?_)
      rw [hZ2] at hS
      by_cases hpr : (⟨lc', lp', pb'⟩ : Z.Pr).Ok
      · repeat' (first | refine pN_la_at (n := 3) hS [.int .i64 lc', .int .i64 lp', .int .i64 pb'] rfl rfl ?_ | (refine pc_state_PropsByte (PropsByte_in ⟨lc', lp', pb'⟩ hpr hS ?_); clear hS; intro w hS) | (refine pc_window_Window_Put (WPut_ok (l := raw) (hS.fd (Win wd)) (by omega) ?_); clear hS; intro w hS) | (refine pN_eql_s ?_ ?_ <;> intro hc <;> try (exfalso; first | omega | exact hc rfl | exact hc (by assumption) | exact absurd hc (by assumption))) | refine pIf_t ?_ | refine pIf_f ?_ | refine pN_l hS (by first | rfl | assumption) ?_ | refine pN_via (by (intro K; simp (disch := omega) only [go_sem, pN_min, pN_max, w_u32, w_u64, Option.isNone_some, Option.isNone_none]; (try simp only [wrap_u32, wrap_u64]); rfl)) ?_ | fail)
        subst hte
        have hS5 : Sat W _ [cel x12 ⟨100, Z1.st.cells⟩, Win wd ⟨Z1.x.size, Z1.x.all ++ raw⟩, LEnc e (Z1.raw raw), LDec d (.ok (Z1.raw raw).dz), old W] := hS.to
        exact ⟨Z1.raw raw, htl, hts.trans hZs, by show (Z1.x.all ++ raw).length ≤ _; rw [List.length_append]; exact hlen2, hS5⟩
      · repeat' (first | refine pN_la_at (n := 3) hS [.int .i64 lc', .int .i64 lp', .int .i64 pb'] rfl rfl ?_ | (refine pc_state_PropsByte (PropsByte_no ⟨lc', lp', pb'⟩ hpr hcl hS ?_); clear hS; intro w hS) | (refine pc_window_Window_Put (WPut_ok (l := raw) (hS.fd (Win wd)) (by omega) ?_); clear hS; intro w hS) | (refine pN_eql_s ?_ ?_ <;> intro hc <;> try (exfalso; first | omega | exact hc rfl | exact hc (by assumption) | exact absurd hc (by assumption))) | refine pIf_t ?_ | refine pIf_f ?_ | refine pN_l hS (by first | rfl | assumption) ?_ | refine pN_via (by (intro K; simp (disch := omega) only [go_sem, pN_min, pN_max, w_u32, w_u64, Option.isNone_some, Option.isNone_none]; (try simp only [wrap_u32, wrap_u64]); rfl)) ?_ | fail)
        subst hte
        have hS5 : Sat W _ [cel x12 ⟨100, Z1.st.cells⟩, Win wd ⟨Z1.x.size, Z1.x.all ++ raw⟩, LEnc e (Z1.raw raw), LDec d (.ok (Z1.raw raw).dz), old W] := hS.to
        exact ⟨Z1.raw raw, htl, hts.trans hZs, by show (Z1.x.all ++ raw).length ≤ _; rw [List.length_append]; exact hlen2, hS5⟩
    · rw [if_neg (by decide), if_pos rfl] at hte
      repeat' (first | (refine pN_eql_s ?_ ?_ <;> intro hc <;> try (exfalso; first | omega | exact hc rfl | exact hc (by assumption) | exact absurd hc (by assumption))) | refine pIf_t ?_ | refine pGd_go (by rfl) ?_ | refine pGd_no (by rfl) ?_ | refine pN_l hS (by first | rfl | assumption) ?_ | refine pN_la hS (by rfl) ?_ | refine pN_via (by (intro K; simp (disch := omega) only [go_sem, pN_min, pN_max, w_u32, w_u64, Option.isNone_some, Option.isNone_none]; (try simp only [wrap_u32, wrap_u64]); rfl)) ?_ | fail)
      refine pc_pithlaw15_told (told_ok (x := ⟨2, ⟨lc', lp', pb'⟩, (sr, raw), (ss, ys)⟩) (Z1 := Z1) (hS.fd2 (LEnc e) (LDec d)) (by show raw.length ≤ _; omega) (by show _ + raw.length ≤ _; omega) hcl (.inr (.inl rfl)) fun w hS => ?_)
      rw [hZ2] at hS
      by_cases hpr : (⟨lc', lp', pb'⟩ : Z.Pr).Ok
      · rw [Z.EZ.reset, if_pos hpr] at hte
        repeat' (first | refine pN_la_at (n := 3) hS [.int .i64 lc', .int .i64 lp', .int .i64 pb'] rfl rfl ?_ | (refine pc_state_PropsByte (PropsByte_in ⟨lc', lp', pb'⟩ hpr hS ?_); clear hS; intro w hS) | (refine pc_state_New (SNew_ok hS ?_); clear hS; intro w hS) | (refine pN_eql_s ?_ ?_ <;> intro hc <;> try (exfalso; first | omega | exact hc rfl | exact hc (by assumption) | exact absurd hc (by assumption))) | refine pIf_t ?_ | refine pIf_f ?_ | refine pN_l hS (by first | rfl | assumption) ?_ | (refine pN_sa hS (by rfl) (by rfl) (by rfl) ?_; clear hS; intro w hS; try dsimp only at hS) | refine pN_via (by (intro K; simp (disch := omega) only [go_sem, pN_min, pN_max, w_u32, w_u64, Option.isNone_some, Option.isNone_none]; (try simp only [wrap_u32, wrap_u64]); rfl)) ?_ | fail)
        subst hte
        have hS5 : Sat W _ [cel x12 ⟨100, [.int .i64 0, .int .i64 1, .int .i64 1, .int .i64 1, .int .i64 1]⟩, Win wd Z1.x, LEnc e ⟨⟨lc', lp', pb'⟩, Z.St.new, Z.T0 ⟨lc', lp', pb'⟩, Z1.x, Z1.s⟩, LDec d (.ok (Z.EZ.mk ⟨lc', lp', pb'⟩ Z.St.new (Z.T0 ⟨lc', lp', pb'⟩) Z1.x Z1.s).dz), old W] := hS.to
        exact ⟨⟨⟨lc', lp', pb'⟩, Z.St.new, Z.T0 ⟨lc', lp', pb'⟩, Z1.x, Z1.s⟩, htl, hts.trans hZs, hlen1, hS5⟩
      · rw [Z.EZ.reset, if_neg hpr] at hte
        repeat' (first | refine pN_la_at (n := 3) hS [.int .i64 lc', .int .i64 lp', .int .i64 pb'] rfl rfl ?_ | (refine pc_state_PropsByte (PropsByte_no ⟨lc', lp', pb'⟩ hpr hcl hS ?_); clear hS; intro w hS) | (refine pN_eql_s ?_ ?_ <;> intro hc <;> try (exfalso; first | omega | exact hc rfl | exact hc (by assumption) | exact absurd hc (by assumption))) | refine pIf_f ?_ | refine pN_l hS (by first | rfl | assumption) ?_ | refine pN_via (by (intro K; simp (disch := omega) only [go_sem, pN_min, pN_max, w_u32, w_u64, Option.isNone_some, Option.isNone_none]; (try simp only [wrap_u32, wrap_u64]); rfl)) ?_ | fail)
        rw [hte] at hS
        exact ⟨Z1, hZ, hZs, hlen1, hS.to⟩
    · rw [if_neg (by decide), if_neg (by decide)] at hte
      repeat' (first | (refine pN_eql_s ?_ ?_ <;> intro hc <;> try (exfalso; first | omega | exact hc rfl | exact hc (by assumption) | exact absurd hc (by assumption))) | refine pIf_t ?_ | refine pGd_go (by rfl) ?_ | refine pN_l hS (by first | rfl | assumption) ?_ | refine pN_la hS (by rfl) ?_ | refine pN_via (by (intro K; simp (disch := omega) only [go_sem, pN_min, pN_max, w_u32, w_u64, Option.isNone_some, Option.isNone_none]; (try simp only [wrap_u32, wrap_u64]); rfl)) ?_ | fail)
      refine pc_pithlaw15_told (told_ok (x := ⟨3, ⟨lc', lp', pb'⟩, (sr, raw), (ss, ys)⟩) (Z1 := Z1) (hS.fd2 (LEnc e) (LDec d)) (by show raw.length ≤ _; omega) (by show _ + raw.length ≤ _; omega) hcl (.inr (.inr rfl)) fun w hS => ?_)
      rw [hZ2] at hS
      by_cases hpr : (⟨lc', lp', pb'⟩ : Z.Pr).Ok
      · repeat' (first | refine pN_la_at (n := 3) hS [.int .i64 lc', .int .i64 lp', .int .i64 pb'] rfl rfl ?_ | (refine pc_state_PropsByte (PropsByte_in ⟨lc', lp', pb'⟩ hpr hS ?_); clear hS; intro w hS) | (refine pc_state_New (SNew_ok hS ?_); clear hS; intro w hS) | (refine pc_window_Window_Clear (WClear_ok (hS.fd (Win wd)) ?_); clear hS; intro w hS) | (refine pN_eql_s ?_ ?_ <;> intro hc <;> try (exfalso; first | omega | exact hc rfl | exact hc (by assumption) | exact absurd hc (by assumption))) | refine pIf_t ?_ | refine pIf_f ?_ | refine pN_l hS (by first | rfl | assumption) ?_ | (refine pN_sa hS (by rfl) (by rfl) (by rfl) ?_; clear hS; intro w hS; try dsimp only at hS) | refine pN_via (by (intro K; simp (disch := omega) only [go_sem, pN_min, pN_max, w_u32, w_u64, Option.isNone_some, Option.isNone_none]; (try simp only [wrap_u32, wrap_u64]); rfl)) ?_ | fail)
        subst hte
        have hS5 : Sat W _ [cel x12 ⟨100, [.int .i64 0, .int .i64 1, .int .i64 1, .int .i64 1, .int .i64 1]⟩, Win wd ⟨Z1.x.size, []⟩, LEnc e Z1.clear, LDec d (.ok Z1.clear.dz), old W] := hS.to
        exact ⟨Z1.clear, htl, hts.trans hZs, by show 0 ≤ _; omega, hS5⟩
      · repeat' (first | refine pN_la_at (n := 3) hS [.int .i64 lc', .int .i64 lp', .int .i64 pb'] rfl rfl ?_ | (refine pc_state_PropsByte (PropsByte_no ⟨lc', lp', pb'⟩ hpr hcl hS ?_); clear hS; intro w hS) | (refine pc_state_New (SNew_ok hS ?_); clear hS; intro w hS) | (refine pc_window_Window_Clear (WClear_ok (hS.fd (Win wd)) ?_); clear hS; intro w hS) | (refine pN_eql_s ?_ ?_ <;> intro hc <;> try (exfalso; first | omega | exact hc rfl | exact hc (by assumption) | exact absurd hc (by assumption))) | refine pIf_t ?_ | refine pIf_f ?_ | refine pN_l hS (by first | rfl | assumption) ?_ | (refine pN_sa hS (by rfl) (by rfl) (by rfl) ?_; clear hS; intro w hS; try dsimp only at hS) | refine pN_via (by (intro K; simp (disch := omega) only [go_sem, pN_min, pN_max, w_u32, w_u64, Option.isNone_some, Option.isNone_none]; (try simp only [wrap_u32, wrap_u64]); rfl)) ?_ | fail)
        subst hte
        have hS5 : Sat W _ [cel x12 ⟨100, [.int .i64 0, .int .i64 1, .int .i64 1, .int .i64 1, .int .i64 1]⟩, Win wd ⟨Z1.x.size, []⟩, LEnc e Z1.clear, LDec d (.ok Z1.clear.dz), old W] := hS.to
        exact ⟨Z1.clear, htl, hts.trans hZs, by show 0 ≤ _; omega, hS5⟩
  have nk1 : ¬ kind = 1 := fun h => hk (.inl h)
  have nk2 : ¬ kind = 2 := fun h => hk (.inr (.inl h))
  have nk3 : ¬ kind = 3 := fun h => hk (.inr (.inr h))
  clear hk
  have hNil : Sat W w (rows cd_uint8 ⟨none, 0⟩ [] :: _) := hS.nil 5 1
  have hNil : Sat W w (rows cd_api_Symbol ⟨none, 0⟩ [] :: rows cd_uint8 ⟨none, 0⟩ [] :: cel x14 ⟨103, [.int .i64 kind, .int .i64 lc', .int .i64 lp', .int .i64 pb', .slice sr.a raw.length sr.c, .slice ss.a ys.length ss.c]⟩ :: [cel x12 ⟨100, Z1.st.cells⟩, Win wd Z1.x, LEnc e Z1, LDec d (.ok Z1.dz), old W]) := hNil.nil 48 4
  clear hS
  have hS := hNil
  clear hNil
  repeat' (first | (refine pN_eql_s ?_ ?_ <;> intro hc <;> try (exfalso; first | omega | exact hc rfl | exact hc (by assumption) | exact absurd hc (by assumption))) | refine pIf_f ?_ | refine pGd_go (by rfl) ?_ | refine pN_l hS (by first | rfl | assumption) ?_ | refine pN_via (by (intro K; simp (disch := omega) only [go_sem, pN_min, pN_max, w_u32, w_u64, Option.isNone_some, Option.isNone_none]; (try simp only [wrap_u32, wrap_u64]); rfl)) ?_ | fail)
  refine ⟨fun v u i w => ∃ (k : Nat) (sm so : Sl), v = .slice sm.a (Z.kept Z1 (ys.take k)).length sm.c ∧ u = .slice so.a (Z1.outs (Z.kept Z1 (ys.take k))).length so.c ∧ i = .int .i64 k ∧ k ≤ ys.length ∧
    Sat W w [rows cd_api_Symbol sm (Z.kept Z1 (ys.take k)), rows cd_uint8 so (Z1.outs (Z.kept Z1 (ys.take k))), cel x14 ⟨103, [.int .i64 kind, .int .i64 lc', .int .i64 lp', .int .i64 pb', .slice sr.a raw.length sr.c, .slice ss.a ys.length ss.c]⟩, cel x12 ⟨100, (Z.puts Z1 (ys.take k)).st.cells⟩, Win wd (Z.puts Z1 (ys.take k)).x, LEnc e (Z.puts Z1 (ys.take k)), LDec d (.ok Z1.dz), old W],
    fun _ _ i _ => ys.length - (RowKit.intOf i).toNat, ⟨0, ⟨none, 0⟩, ⟨none, 0⟩, rfl, rfl, rfl, Nat.zero_le _, hS⟩, ?_⟩
  clear hS
  rintro _ _ _ _ w ⟨k, sm, so, rfl, rfl, rfl, hkl, hS⟩
  obtain ⟨zo, zk, zx⟩ := Z.puts_bd hZ (ys.take k)
  rw [List.length_take, Nat.min_eq_left hkl] at zk zx
  have hko := Z.kept_ok (ys.take k) Z1
  have hkn := Z.kept_len (ys.take k) Z1
  rw [List.length_take, Nat.min_eq_left hkl] at hkn
  have hsz := Z.sizes_pos _ hko.1
  have hol := Z.EZ.outs_len _ hko.1
  have hs0 : Z1.s.k = 0 := by rw [hZs]; rfl
  by_cases hlt2 : k < ys.length
  · obtain ⟨y, hy⟩ : ∃ y, ys[k]? = some y := ⟨ys[k]'hlt2, by simp⟩
    have hsn : ys.take (k + 1) = ys.take k ++ [y] := by rw [List.take_add_one, hy]; rfl
    have hp1 : Z.puts Z1 (ys.take (k + 1)) = (Z.puts Z1 (ys.take k)).put y := by rw [hsn, Z.puts_snoc]
    have hk2 := Z.kept_snoc (ys.take k) Z1 y
    rw [← hsn] at hk2
    have ho2 := Z.EZ.outs_snoc (Z.kept Z1 (ys.take k)) Z1 y
    rw [hko.2] at ho2
    generalize Z.puts Z1 (ys.take k) = Z2 at *
    generalize Z.kept Z1 (ys.take k) = m at *
    repeat' (first | (refine pN_lss_s ?_ ?_ <;> intro hc <;> try (exfalso; omega)) | refine pIf_t ?_ | refine pN_l hS (by first | rfl | assumption) ?_ | refine pN_via (by (intro K; simp (disch := omega) only [go_sem, pN_min, pN_max, w_u32, w_u64, Option.isNone_some, Option.isNone_none]; (try simp only [wrap_u32, wrap_u64]); rfl)) ?_ | fail)
    refine ⟨fun v u w => ∃ sm so : Sl, v = .slice sm.a (Z.kept Z1 (ys.take (k + 1))).length sm.c ∧ u = .slice so.a (Z1.outs (Z.kept Z1 (ys.take (k + 1)))).length so.c ∧
      Sat W w [rows cd_api_Symbol sm (Z.kept Z1 (ys.take (k + 1))), rows cd_uint8 so (Z1.outs (Z.kept Z1 (ys.take (k + 1)))), cel x14 ⟨103, [.int .i64 kind, .int .i64 lc', .int .i64 lp', .int .i64 pb', .slice sr.a raw.length sr.c, .slice ss.a ys.length ss.c]⟩, cel x12 ⟨100, (Z.puts Z1 (ys.take (k + 1))).st.cells⟩, Win wd (Z.puts Z1 (ys.take (k + 1))).x, LEnc e (Z.puts Z1 (ys.take (k + 1))), LDec d (.ok Z1.dz), old W], ?_, ?_⟩
    rotate_left 1
    · clear hS
      rintro _ _ _ w ⟨sm, so, rfl, rfl, hS⟩
      repeat' (first | refine pN_via (by (intro K; simp (disch := omega) only [go_sem, pN_min, pN_max, w_u32, w_u64, Option.isNone_some, Option.isNone_none]; (try simp only [wrap_u32, wrap_u64]); rfl)) ?_ | fail)
      exact ⟨⟨k + 1, sm, so, rfl, rfl, rfl, by omega, hS⟩, by simp [RowKit.intOf]; omega⟩
    repeat' (first | refine pN_ixk hS k rfl rfl hy (fun a ha hel => ?_) | refine pN_l hS (by first | rfl | assumption) ?_ | refine pN_ld_at ha hS (by rfl) ?_ | refine pN_via (by (intro K; simp (disch := omega) only [go_sem, pN_min, pN_max, w_u32, w_u64, Option.isNone_some, Option.isNone_none]; (try simp only [wrap_u32, wrap_u64]); rfl)) ?_ | fail)
    refine pc_lzenc_Encoder_Put (LPut_ok (y := y) hG (hS.fd (LEnc e)) (by omega) (by omega) fun w hS => ?_)
    by_cases hm : Z2.may y = 0
    rotate_left 1
    · have hpt : Z2.put y = Z2 := by rw [Z.EZ.put, if_neg hm]
      rw [if_neg hm, List.append_nil] at hk2
      rw [hp1, hpt, hk2]
      rw [hpt] at hS
      repeat' (first | (refine pN_neq_s ?_ ?_ <;> intro hc <;> try (exfalso; first | omega | exact hc rfl | exact hc (by assumption) | exact absurd hc (by assumption))) | refine pIf_t ?_ | fail)
      exact ⟨sm, so, rfl, rfl, hS.to⟩
    have hpt : Z2.put y = Z2.put1 y := by rw [Z.EZ.put, if_pos hm]
    have hml := Z.made_len (x := Z2.x) (s := Z2.st) (Z.may_err hm)
    have hsb := Z.size_bd (Z.may_err hm)
    rw [if_pos hm] at hk2
    rw [hp1, hpt, hk2, ho2, hm]
    rw [hpt] at hS
    have hm' : Z.may Z2.x Z2.st y = 0 := hm
    clear hko hk2 ho2 hp1
    generalize Z1.outs m = os at *
    repeat' (first | refine pN_ixk hS k rfl rfl hy (fun a ha hel => ?_) | refine pA_ixk hS k rfl rfl hy (fun a ha hel => ?_) | refine pL_la_at (n := 5) hS Z2.st.cells rfl rfl ?_ | (refine pN_neq_s ?_ ?_ <;> intro hc <;> try (exfalso; first | omega | exact hc rfl | exact hc (by assumption) | exact absurd hc (by assumption))) | refine pIf_f ?_ | refine pN_l hS (by first | rfl | assumption) ?_ | refine pL_l hS (by first | rfl | assumption) ?_ | refine pN_ld_at ha hS (by rfl) ?_ | refine pL_ld_at ha hS (by rfl) ?_ | (refine pDr_go hS ?_; clear hS; intro w hS) | (refine pN_b1 hS (by rfl) (by decide) ?_; clear hS; intro s w hS) | (refine pN_app hS (by first | rfl | omega | simpa only [go_sem] using True.intro | (simp only [go_sem]; omega)) (by first | rfl | omega | simpa only [go_sem] using True.intro | (simp only [go_sem]; omega)) (by first | omega | (simp only [go_sem]; omega)) ?_; clear hS; intro s w hS) | refine pN_via (by (intro K; simp (disch := omega) only [go_sem, pN_min, pN_max, w_u32, w_u64, Option.isNone_some, Option.isNone_none]; (try simp only [wrap_u32, wrap_u64]); rfl)) ?_ | refine pA_via (by (intro K; simp (disch := omega) only [go_sem, pN_min, pN_max, w_u32, w_u64, Option.isNone_some, Option.isNone_none]; (try simp only [wrap_u32, wrap_u64]); rfl)) ?_ | fail)
    refine ⟨?_, ?_⟩
    all_goals
      repeat' (first | refine ⟨⟨run_ld_at ha hS (by rfl), run_l hS (by rfl), run_la_at (n := 5) hS Z2.st.cells rfl rfl, trivial⟩, ?_⟩ | (refine pc_symbol_Apply (Apply_in (y := y) hG (hS.fd (Win wd)) zo.st hm' (by omega) ?_); clear hS; intro s' w hS) | refine pN_la_at (n := 5) hS (Z2.st.next y).cells rfl rfl ?_ | (refine pN_neq_s ?_ ?_ <;> intro hc <;> try (exfalso; first | omega | exact hc rfl | exact hc (by assumption) | exact absurd hc (by assumption))) | refine pIf_f ?_ | (refine pN_sa hS (by rfl) (by rfl) (by rfl) ?_; clear hS; intro w hS; try dsimp only at hS) | (refine pN_nz hS ?_; clear hS; intro a w hS) | refine ⟨trivial, ?_⟩ | (refine pN_app hS (by first | rfl | omega | simpa only [go_sem] using True.intro | (simp only [go_sem]; omega)) (by first | rfl | omega | simpa only [go_sem] using True.intro | (simp only [go_sem]; omega)) (by first | omega | (simp only [go_sem]; omega)) ?_; clear hS; intro s w hS) | refine pA_via (by (intro K; simp (disch := omega) only [go_sem, pN_min, pN_max, w_u32, w_u64, Option.isNone_some, Option.isNone_none]; (try simp only [wrap_u32, wrap_u64]); rfl)) ?_ | fail)
      refine ⟨_, _, rfl, rfl, ?_⟩
      show Sat W _ [rows cd_api_Symbol _ (m ++ [y]), rows cd_uint8 _ (os ++ Z.made Z2.x Z2.st y), cel x14 ⟨103, [.int .i64 kind, .int .i64 lc', .int .i64 lp', .int .i64 pb', .slice sr.a raw.length sr.c, .slice ss.a ys.length ss.c]⟩, cel x12 ⟨100, (Z2.st.next y).cells⟩, Win wd (Z2.x.put (Z.made Z2.x Z2.st y)), LEnc e (Z2.put1 y), LDec d (.ok Z1.dz), old W]
      exact hS.to
  · obtain rfl : k = ys.length := by omega
    rw [List.take_length] at *
    have hkE := (Z.EZ.Ok.putV _ hZ hko.1)
    have hbl : (Z1.putV (Z.kept Z1 ys)).s.bytes.length = (Z1.putV (Z.kept Z1 ys)).s.k + 5 := R.digits_length _ _
    have htr := Z.take_trip hZ hZs hko.1
    have hpx : (Z1.putV (Z.kept Z1 ys)).x.all.length = Z1.x.all.length + (Z1.outs (Z.kept Z1 ys)).length := by rw [Z.EZ.putV_x]; simp
    have hcut : (Z1.putV (Z.kept Z1 ys)).cut.Ok := hkE.1.cut
    rw [← hko.2] at hS
    have hnil : (Z.kept Z1 ys).length = 0 → Z1.putV (Z.kept Z1 ys) = Z1 := fun h => by rw [List.length_eq_zero_iff.1 h]; rfl
    have hb1 : (Z1.putV (Z.kept Z1 ys)).s.k + 18 ≤ 140737488355328 := by omega
    have hb2 : (Z1.putV (Z.kept Z1 ys)).s.bytes.length ≤ 225000000000000 := by omega
    have hb3 : Z1.dz.x.all.length + 2097152 + 273 ≤ 4611686018427387904 := by show Z1.x.all.length + 2097152 + 273 ≤ _; omega
    have hb5 : (Z.kept Z1 ys).length ≤ 4611686018427387904 / 273 := by omega
    have hb6 : (Z1.putV (Z.kept Z1 ys)).x.all.length ≤ f (i + 1) := by omega
    clear hZ hkE zo zk zx hbl hpx
    generalize hM : Z.kept Z1 ys = m at *
    generalize hY : Z1.putV m = Z2 at *
    repeat' (first | (refine pN_lss_s ?_ ?_ <;> intro hc <;> try (exfalso; omega)) | refine pIf_f ?_ | refine pN_l hS (by first | rfl | assumption) ?_ | refine pN_via (by (intro K; simp (disch := omega) only [go_sem, pN_min, pN_max, w_u32, w_u64, Option.isNone_some, Option.isNone_none]; (try simp only [wrap_u32, wrap_u64]); rfl)) ?_ | fail)
    refine pc_lzenc_Encoder_Cut (LCut_ok (hS.fd (LEnc e)) hb1 fun sc w hS => ?_)
    by_cases hz0 : Z.sizes m < 1
    · have hz1 := hnil (by omega)
      repeat' (first | (refine pc_pithlaw15_size (size15_ok hG hS hb5 ?_); clear hS; intro w hS) | ((first | refine pN_lss_s ?_ ?_ | refine pN_gtr_s ?_ ?_) <;> intro hc <;> try (exfalso; omega)) | refine pIf_t ?_ | refine pIf_f ?_ | refine pGd_no (by rfl) ?_ | refine pN_via (by (intro K; simp (disch := omega) only [go_sem, pN_min, pN_max, w_u32, w_u64, Option.isNone_some, Option.isNone_none]; (try simp only [wrap_u32, wrap_u64]); rfl)) ?_ | fail)
      have hS5 : Sat W _ [cel x12 ⟨100, Z2.st.cells⟩, Win wd Z2.x, LEnc e Z2.cut, LDec d (.ok Z1.dz), old W] := hS.to
      rw [show Z1 = Z2 from hz1.symm] at hS5
      exact ⟨Z2.cut, hcut, rfl, hb6, hS5⟩
    · by_cases hz1 : 2097152 < Z.sizes m
      · repeat' (first | (refine pc_pithlaw15_size (size15_ok hG hS hb5 ?_); clear hS; intro w hS) | ((first | refine pN_lss_s ?_ ?_ | refine pN_gtr_s ?_ ?_) <;> intro hc <;> try (exfalso; omega)) | refine pIf_t ?_ | refine pGd_go (by rfl) ?_ | refine pN_via (by (intro K; simp (disch := omega) only [go_sem, pN_min, pN_max, w_u32, w_u64, Option.isNone_some, Option.isNone_none]; (try simp only [wrap_u32, wrap_u64]); rfl)) ?_ | fail)
        exact ⟨rfl, hS.to⟩
      · have htk := Z.DS.take_in ⟨by omega, by omega⟩ htr
        obtain ⟨us, hus⟩ : ∃ us, us = m.map Z.used := ⟨_, rfl⟩
        rw [← hus] at htk
        clear htr hnil hko hsz
        generalize Z1.outs m = os at *
        generalize Z2.s.bytes = bs at *
        repeat' (first | (refine pc_pithlaw15_size (size15_ok hG hS hb5 ?_); clear hS; intro w hS) | ((first | refine pN_lss_s ?_ ?_ | refine pN_gtr_s ?_ ?_) <;> intro hc <;> try (exfalso; omega)) | refine pIf_f ?_ | refine pGd_go (by rfl) ?_ | refine pN_via (by (intro K; simp (disch := omega) only [go_sem, pN_min, pN_max, w_u32, w_u64, Option.isNone_some, Option.isNone_none]; (try simp only [wrap_u32, wrap_u64]); rfl)) ?_ | fail)
        generalize Z.sizes m = zs at *
        refine pc_lzdec_Decoder_Take (DcTake_ok (l := bs) hG (hS.fd (LDec d)) hb2 zs hb3 fun sq sb w hS => ?_)
        rw [htk] at hS ⊢
        dsimp only at hS ⊢
        repeat' (first | (refine pc_pithlaw15_means (means_ok hus hS hb5 ?_); clear hS; intro w hS) | ((first | refine pN_neq_s ?_ ?_ | refine pN_neq_ss ?_ ?_) <;> intro hc <;> try (exfalso; first | omega | exact hc rfl | exact hc (by assumption) | exact absurd hc (by assumption))) | refine pIf_f ?_ | refine pGd_go (by rfl) ?_ | refine pN_st hS (by first | rfl | omega | simpa only [go_sem] using True.intro | (simp only [go_sem]; omega)) ?_ | refine pN_via (by (intro K; simp (disch := omega) only [go_sem, pN_min, pN_max, w_u32, w_u64, Option.isNone_some, Option.isNone_none]; (try simp only [wrap_u32, wrap_u64]); rfl)) ?_ | fail)
        have hS5 : Sat W _ [cel x12 ⟨100, Z2.st.cells⟩, Win wd Z2.x, LEnc e Z2.cut, LDec d (.ok Z2.dz), old W] := hS.to
        exact ⟨Z2.cut, hcut, rfl, hb6, hS5⟩



end Go.Proofs.YtbgnnjfpiblkmaaGreatDoor
